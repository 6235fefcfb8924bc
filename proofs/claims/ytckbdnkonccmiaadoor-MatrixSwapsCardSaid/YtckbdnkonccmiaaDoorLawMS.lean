/-
  MatrixSwaps, walked.
-/
import Derived.Test.YtckbdnkonccmiaaDoorLawKit
namespace Go.Proofs.YtckbdnkonccmiaaDoor
open Go.RowKit
set_option maxHeartbeats 8000000 in
set_option maxRecDepth 100000 in
theorem matrixSwaps_any (w : World) (m : Mat) (vd vp vc ve : Value) (ha : MatAt w m vd vp vc ve) (hms : MatSmall m) (ht : Tab w) (h10 : Tab10 w) :
    Calls Tryd.prog 6 #[m.val vd vp vc ve] w fun e w' => e = .returned (.bool true) ∧ Below w.heap.size w w' := by
  obtain ⟨r, wt, bk, cy, key, ds, ps, cs, es⟩ := m
  obtain ⟨Ad, cd, e, -, -⟩ := id ha.1
  simp only at e
  subst e
  obtain ⟨Ap, cp, e, -, -⟩ := id ha.2.1
  simp only at e
  subst e
  obtain ⟨Ac, cc, e, -, -⟩ := id ha.2.2.1.1
  simp only at e
  subst e
  obtain ⟨Ae, ce, e, -, -⟩ := id ha.2.2.2.1
  simp only at e
  subst e
  have HB := Lib.hid (⟨(Below.refl _ _).alloc (Nat.le_refl _) _, ha.below ((Below.refl _ _).alloc (Nat.le_refl _) _), Words.Blk.new w _ _, ht.below ((Below.refl _ _).alloc (Nat.le_refl _) _) (Nat.le_refl _), h10.below ((Below.refl _ _).alloc (Nat.le_refl _) _) (Nat.le_refl _)⟩ : HdIs w w.heap.size ⟨r, wt, bk, cy, key, ds, ps, cs, es⟩ (.slice Ad ds.length cd) (.slice Ap ps.length cp) (.slice Ac cs.length cc) (.slice Ae es.length ce) #[.int .i64 r, .int .i64 wt, .int .i64 bk, .int .i64 cy, .string key, .slice Ad ds.length cd, .slice Ap ps.length cp, .slice Ac cs.length cc, .slice Ae es.length ce] (w.alloc (.cells #[.int .i64 r, .int .i64 wt, .int .i64 bk, .int .i64 cy, .string key, .slice Ad ds.length cd, .slice Ap ps.length cp, .slice Ac cs.length cc, .slice Ae es.length ce] 27)))
  have HSM := Lib.hid hms
  obtain ⟨TX, hTX⟩ : ∃ TX, TX = textM ⟨r, wt, bk, cy, key, ds, ps, cs, es⟩ := ⟨_, rfl⟩
  have HTX := Lib.hid hTX
  clear ha hms ht h10 hTX
  unfold Mat.val
  simp only
  go_enter Tryd.func6, Tryd.ntmps6
  go_wp2_with fail
  refine (head_any _ HB.out.tab HB.out.tab10).mono ?_
  rintro e w1 ⟨rfl, hb⟩
  have HB := Lib.hid (HB.out.below hb)
  clear hb
  have z0 : w1.cell? ⟨w.heap.size, 0, none⟩ = some (.int .i64 r) := HB.out.box.cell 0
  have z1 : w1.cell? ⟨w.heap.size, 1, none⟩ = some (.int .i64 wt) := HB.out.box.cell 1
  have z2 : w1.cell? ⟨w.heap.size, 2, none⟩ = some (.int .i64 bk) := HB.out.box.cell 2
  have z3 : w1.cell? ⟨w.heap.size, 3, none⟩ = some (.int .i64 cy) := HB.out.box.cell 3
  have z4 : w1.cell? ⟨w.heap.size, 4, none⟩ = some (.string key) := HB.out.box.cell 4
  have z5 : w1.cell? ⟨w.heap.size, 5, none⟩ = some (.slice Ad ds.length cd) := HB.out.box.cell 5
  have z6 : w1.cell? ⟨w.heap.size, 6, none⟩ = some (.slice Ap ps.length cp) := HB.out.box.cell 6
  have z7 : w1.cell? ⟨w.heap.size, 7, none⟩ = some (.slice Ac cs.length cc) := HB.out.box.cell 7
  have z8 : w1.cell? ⟨w.heap.size, 8, none⟩ = some (.slice Ae es.length ce) := HB.out.box.cell 8
  go_wp2_with fail
  clear z0 z1 z2 z3 z4 z5 z6 z7 z8
  have hp := printM_any w1 ⟨r, wt, bk, cy, key, ds, ps, cs, es⟩ _ _ _ _ HB.out.mat HSM.out HB.out.tab10
  rw [← HTX.out] at hp
  refine hp.mono ?_
  rintro e w2 ⟨rfl, hb⟩
  have HB := Lib.hid (HB.out.below hb)
  clear hb
  clear hp
  have z0 : w2.cell? ⟨w.heap.size, 0, none⟩ = some (.int .i64 r) := HB.out.box.cell 0
  have z1 : w2.cell? ⟨w.heap.size, 1, none⟩ = some (.int .i64 wt) := HB.out.box.cell 1
  have z2 : w2.cell? ⟨w.heap.size, 2, none⟩ = some (.int .i64 bk) := HB.out.box.cell 2
  have z3 : w2.cell? ⟨w.heap.size, 3, none⟩ = some (.int .i64 cy) := HB.out.box.cell 3
  have z4 : w2.cell? ⟨w.heap.size, 4, none⟩ = some (.string key) := HB.out.box.cell 4
  have z5 : w2.cell? ⟨w.heap.size, 5, none⟩ = some (.slice Ad ds.length cd) := HB.out.box.cell 5
  have z6 : w2.cell? ⟨w.heap.size, 6, none⟩ = some (.slice Ap ps.length cp) := HB.out.box.cell 6
  have z7 : w2.cell? ⟨w.heap.size, 7, none⟩ = some (.slice Ac cs.length cc) := HB.out.box.cell 7
  have z8 : w2.cell? ⟨w.heap.size, 8, none⟩ = some (.slice Ae es.length ce) := HB.out.box.cell 8
  go_wp2_with fail
  clear z0 z1 z2 z3 z4 z5 z6 z7 z8
  refine (great_any _ ⟨r, wt, bk, cy, key, ds, ps, cs, es⟩ _ _ _ _ HB.out.mat HSM.out).mono ?_
  rintro e w3 ⟨⟨b, rfl⟩, hb⟩
  have HB := Lib.hid (HB.out.below hb)
  clear hb
  cases b with
  | true =>
    go_wp2_with fail
    go_ret
    exact ⟨rfl, HB.out.old⟩
  | false =>
    by_cases hr : RightP ⟨r, wt, bk, cy, key, ds, ps, cs, es⟩
    case neg =>
      have hns : TX.toList.isEmpty = true := by rw [HTX.out, textM_wrong hr]; exact none_text
      go_wp2_with fail
      go_ret
      exact ⟨rfl, HB.out.old⟩
    have HR := Lib.hid hr
    have hns : TX.toList.isEmpty = false := some_text (by rw [HTX.out]; exact textM_some hr)
    have HTE : Hid (TX = toB (printL (bytesL (linesOf ⟨r, wt, bk, cy, key, ds, ps, cs, es⟩)))) := Lib.hid (by rw [HTX.out, textM_right hr])
    clear hr
    by_cases hl : (4096 : Int) < (TX.size : Int)
    case pos =>
      go_wp2_with fail
      go_ret
      exact ⟨rfl, HB.out.old⟩
    have HSZ : Hid ((printL (bytesL (linesOf ⟨r, wt, bk, cy, key, ds, ps, cs, es⟩))).length ≤ 4096) := Lib.hid (by rw [← toB_size, ← HTE.out]; omega)
    go_wp2_with fail
    have hls := rlines_s w3 (lines_fine HR.out) (Nat.le_trans HSZ.out (by decide))
    rw [← HTE.out] at hls
    refine hls.mono ?_
    rintro e w4 ⟨xs, A, c, rfl, htold, hlat, hfew, hb⟩
    have HB := Lib.hid (HB.out.below hb)
    clear hb
    have HTO := Lib.hid (told_m htold hfew)
    have HLEN := Lib.hid (lines_len HR.out)
    have hn2 : 2 ≤ xs.length := by rw [HTO.out.len]; exact HLEN.out.2
    have hn38 : xs.length ≤ 38 := by rw [HTO.out.len]; exact HLEN.out.1
    obtain ⟨⟨lb, lo, hA⟩, hcap⟩ := ls_place hlat (by omega)
    subst hA
    have HLS := Lib.hid hlat
    clear htold hlat hfew hls
    obtain ⟨n, hn⟩ : ∃ n, n = xs.length := ⟨_, rfl⟩
    rw [← hn] at hn2 hn38 hcap HLS ⊢
    have HN := Lib.hid hn
    clear hn
    by_cases h3 : n < 3
    · have h4 : (n : Int) < 3 := by omega
      go_wp2_with fail
      go_ret
      exact ⟨rfl, HB.out.old⟩
    have h4 : ¬ (n : Int) < 3 := by omega
    have H3 := Lib.hid (show 3 ≤ n by omega)
    have hi0 : (0 : Int) < (n : Int) := by omega
    have hi0' : 0 < n := by omega
    have hi1 : (1 : Int) < (n : Int) := by omega
    have hi2 : (2 : Int) < (n : Int) := by omega
    obtain ⟨x0, hx0⟩ : ∃ x, xs[0]? = some x := ⟨_, List.getElem?_eq_getElem (by rw [← HN.out]; omega)⟩
    obtain ⟨x1, hx1⟩ : ∃ x, xs[1]? = some x := ⟨_, List.getElem?_eq_getElem (by rw [← HN.out]; omega)⟩
    obtain ⟨x2, hx2⟩ : ∃ x, xs[2]? = some x := ⟨_, List.getElem?_eq_getElem (by rw [← HN.out]; omega)⟩
    obtain ⟨d, dr, hdv, hl2, htl⟩ := first_dev HR.out (by rw [← HTO.out.len, ← HN.out]; omega)
    have hb0 := at_bs HTO.out hx0 (line0 _)
    have hb1 := at_bs HTO.out hx1 (line1 _)
    have hb2 := at_bs HTO.out hx2 hl2
    have hs0 := HLS.out.2 x0 (List.mem_of_getElem? hx0)
    have hs1 := HLS.out.2 x1 (List.mem_of_getElem? hx1)
    have hs2 := HLS.out.2 x2 (List.mem_of_getElem? hx2)
    have hf0 := HTO.out.few x0 (List.mem_of_getElem? hx0)
    have hf1 := HTO.out.few x1 (List.mem_of_getElem? hx1)
    have hf2 := HTO.out.few x2 (List.mem_of_getElem? hx2)
    have H3C : Hid (∀ W, Below w4.heap.size w4 W → _) := Lib.hid (fun W hW => ls_three (HLS.out.below hW) HN.out hx0 hx1 hx2)
    obtain ⟨n0, v0, ws0⟩ := x0
    obtain ⟨n1, v1, ws1⟩ := x1
    obtain ⟨n2, v2, ws2⟩ := x2
    obtain ⟨va0, vc0, ev0, -, -⟩ := id hs0.1
    obtain ⟨va1, vc1, ev1, -, -⟩ := id hs1.1
    obtain ⟨va2, vc2, ev2, -, -⟩ := id hs2.1
    simp only at ev0 ev1 ev2 hf0 hf1 hf2 H3C
    subst ev0 ev1 ev2
    obtain ⟨m0, hm0⟩ : ∃ m, m = ws0.length := ⟨_, rfl⟩
    obtain ⟨m1, hm1⟩ : ∃ m, m = ws1.length := ⟨_, rfl⟩
    obtain ⟨m2, hm2⟩ : ∃ m, m = ws2.length := ⟨_, rfl⟩
    rw [← hm0] at H3C hs0 hb0
    rw [← hm1] at H3C hs1 hb1
    rw [← hm2] at H3C hs2 hb2
    have HS0 := Lib.hid hs0.1
    have HS1 := Lib.hid hs1.1
    have HS2 := Lib.hid hs2.1
    have HB0 := Lib.hid hb0
    have HB1 := Lib.hid hb1
    have HB2 := Lib.hid hb2
    have HF := Lib.hid (show ws0.length ≤ 14 ∧ ws1.length ≤ 14 ∧ ws2.length ≤ 14 from ⟨hf0, hf1, hf2⟩)
    have HDV := Lib.hid hdv
    have HTL := Lib.hid htl
    obtain ⟨y00, y01, y10, y11, y20, y21⟩ := H3C.out w4 (Below.refl _ _)
    have za : ∀ ob : Obj, (w4.alloc ob).cell? ⟨lb, lo, none⟩ = some (.int .i64 n0) ∧ (w4.alloc ob).cell? ⟨lb, lo + 1, none⟩ = some (.slice va0 m0 vc0) ∧ (w4.alloc ob).cell? ⟨lb, lo + 2, none⟩ = some (.int .i64 n1) ∧ (w4.alloc ob).cell? ⟨lb, lo + 2 + 1, none⟩ = some (.slice va1 m1 vc1) := fun ob => by
      obtain ⟨a, b, c, d, -, -⟩ := H3C.out _ ((Below.refl _ _).alloc (Nat.le_refl _) ob)
      exact ⟨a, b, c, d⟩
    clear hs0 hs1 hs2 hb0 hb1 hb2 hx0 hx1 hx2 hf0 hf1 hf2 hm0 hm1 hm2 hdv htl hl2 h3
    go_upto_region 8 with fail
    go_region_held3 (fun w' => w'.cell? ⟨lb, lo, none⟩ = some (.int .i64 n0) ∧ w'.cell? ⟨lb, lo + 1, none⟩ = some (.slice va0 m0 vc0) ∧ w'.cell? ⟨lb, lo + 2, none⟩ = some (.int .i64 n1) ∧ w'.cell? ⟨lb, lo + 2 + 1, none⟩ = some (.slice va1 m1 vc1))
      (first | exact ⟨y00, y01, y10, y11⟩ | exact za _)
      (fail)
    clear y00 y01 y10 y11 y20 y21 za
    have HL1 : Hid (LsAt ((w4.alloc (.cells #[.int .i64 n1, .slice va1 m1 vc1, .int .i64 n0, .slice va0 m0 vc0] 50)).drew) [⟨n1, .slice va1 m1 vc1, ws1⟩, ⟨n0, .slice va0 m0 vc0, ws0⟩] (.slice (some ⟨w4.heap.size, 0, none⟩) 2 2)) := Lib.hid (lit_lns w4 [⟨n1, .slice va1 m1 vc1, ws1⟩, ⟨n0, .slice va0 m0 vc0, ws0⟩] (by simp) (fun x hx => by
      have := HF.out
      simp only [List.mem_cons, List.not_mem_nil, or_false] at hx
      rcases hx with rfl | rfl
      · exact ⟨HS1.out, by simp only; omega⟩
      · exact ⟨HS0.out, by simp only; omega⟩))
    have HB := Lib.hid ((HB.out.alloc (.cells #[.int .i64 n1, .slice va1 m1 vc1, .int .i64 n0, .slice va0 m0 vc0] 50)).below (below_drewn (Below.refl _ _) 1))
    have HLS := Lib.hid ((HLS.out.below ((Below.refl _ _).alloc (Nat.le_refl _) (.cells #[.int .i64 n1, .slice va1 m1 vc1, .int .i64 n0, .slice va0 m0 vc0] 50))).below (below_drewn (Below.refl _ _) 1))
    have HOLD : Hid (Below w4.heap.size w4 ((w4.alloc (.cells #[.int .i64 n1, .slice va1 m1 vc1, .int .i64 n0, .slice va0 m0 vc0] 50)).drewN 1)) := Lib.hid (below_drewn ((Below.refl _ _).alloc (Nat.le_refl _) _) 1)
    change Hid (HdIs _ _ _ _ _ _ _ _ ((w4.alloc (.cells #[.int .i64 n1, .slice va1 m1 vc1, .int .i64 n0, .slice va0 m0 vc0] 50)).drew)) at HB
    change Hid (LsAt ((w4.alloc (.cells #[.int .i64 n1, .slice va1 m1 vc1, .int .i64 n0, .slice va0 m0 vc0] 50)).drew) _ _) at HLS
    change Hid (Below _ _ ((w4.alloc (.cells #[.int .i64 n1, .slice va1 m1 vc1, .int .i64 n0, .slice va0 m0 vc0] 50)).drew)) at HOLD
    generalize (w4.alloc (.cells #[.int .i64 n1, .slice va1 m1 vc1, .int .i64 n0, .slice va0 m0 vc0] 50)).drew = w8 at *
    obtain ⟨lq, hlq⟩ : ∃ lq, lq = w4.heap.size := ⟨_, rfl⟩
    rw [← hlq] at HL1 ⊢
    clear hlq
    obtain ⟨P1, hP1⟩ : ∃ P, P = toB (printL (bytesL [keyW ⟨r, wt, bk, cy, key, ds, ps, cs, es⟩, watchW ⟨r, wt, bk, cy, key, ds, ps, cs, es⟩])) := ⟨_, rfl⟩
    obtain ⟨P2, hP2⟩ : ∃ P, P = toB (printL (bytesL (tailOf ⟨r, wt, bk, cy, key, ds, ps, cs, es⟩))) := ⟨_, rfl⟩
    have hsz := HSZ.out
    have hlen : (printL (bytesL (linesOf ⟨r, wt, bk, cy, key, ds, ps, cs, es⟩))).length = (printL (bytesL [keyW ⟨r, wt, bk, cy, key, ds, ps, cs, es⟩, watchW ⟨r, wt, bk, cy, key, ds, ps, cs, es⟩])).length + (printL (bytesL (tailOf ⟨r, wt, bk, cy, key, ds, ps, cs, es⟩))).length := by
      show (printL (bytesL ([watchW ⟨r, wt, bk, cy, key, ds, ps, cs, es⟩] ++ [keyW ⟨r, wt, bk, cy, key, ds, ps, cs, es⟩] ++ tailOf ⟨r, wt, bk, cy, key, ds, ps, cs, es⟩))).length = _
      rw [print_len_perm]
      show (printL (bytesL ([keyW ⟨r, wt, bk, cy, key, ds, ps, cs, es⟩, watchW ⟨r, wt, bk, cy, key, ds, ps, cs, es⟩] ++ tailOf ⟨r, wt, bk, cy, key, ds, ps, cs, es⟩))).length = _
      rw [bytesL_append, printL_append, List.length_append]
    have hbs2 := HTO.out.sub 2 (n - 2)
    rw [drop2, List.take_of_length_le (l := tailOf ⟨r, wt, bk, cy, key, ds, ps, cs, es⟩) (by have h := HTO.out.len; rw [← HN.out] at h; unfold linesOf at h; simp at h; omega)] at hbs2
    have HQ1 := Lib.hid (fun W => still_print (w := W) (xs := [⟨n1, .slice va1 m1 vc1, ws1⟩, ⟨n0, .slice va0 m0 vc0, ws0⟩]) (v := .slice (some ⟨lq, 0, none⟩) 2 2) (ls := [keyW ⟨r, wt, bk, cy, key, ds, ps, cs, es⟩, watchW ⟨r, wt, bk, cy, key, ds, ps, cs, es⟩]) (P := P1) (by simp only [List.map_cons, List.map_nil, bytesL]; rw [← HB0.out, ← HB1.out]) hP1 (by simp) (fun x hx => by
      have := HF.out
      simp only [List.mem_cons, List.not_mem_nil, or_false] at hx
      rcases hx with rfl | rfl <;> (simp only; omega)) (by omega))
    have HQ2 := Lib.hid (fun W => still_print (w := W) (xs := (xs.drop 2).take (n - 2)) (v := .slice (some ⟨lb, lo + 4, none⟩) (n - 2) (c - 2)) (ls := tailOf ⟨r, wt, bk, cy, key, ds, ps, cs, es⟩) (P := P2) hbs2 hP2 (by simp; omega) (fun x hx => by have := HTO.out.few x (List.mem_of_mem_drop (List.mem_of_mem_take hx)); omega) (by omega))
    have HL2 := Lib.hid (ls_sub (a := 2) (k := n - 2) (by have := HLS.out; rw [HN.out] at this; exact this) (by rw [← HN.out]; omega))
    have HPS := Lib.hid (show (P1 ++ P2).size ≤ 1000000 by rw [concat_size, hP1, hP2, toB_size, toB_size]; omega)
    have hp1 : P1.size ≤ 4096 := by rw [hP1, toB_size]; omega
    have hp2 : P2.size ≤ 4096 := by rw [hP2, toB_size]; omega
    have HPO : Hid (parseO (P1 ++ P2).data.toList = ((⟨r, wt, bk, cy, key, ds, ps, cs, es⟩ : Mat).bare, 0, 0)) := Lib.hid (by rw [hP1, hP2, toB_append, toB_list, ← printL_append, ← bytesL_append]; exact parse_swapped HR.out HSZ.out)
    have hi2' : (2 : Int) ≤ (n : Int) := by omega
    have hcn2 : ¬ c = 2 := by omega
    have hcat : ¬ 9223372036854775807 < P1.size + P2.size := by omega
    have hi2c : (2 : Int) ≤ (c : Int) := by omega
    clear hP1 hP2 hsz hlen hbs2
    go_upto_region 9 with fail
    go_cut [9, 10, 11] (fun p e i wx => ∃ gx : Nat, p = .pointer (some ⟨gx, 0, none⟩) ∧ e = .int .i64 0 ∧ i = .int .i64 0 ∧ Hid (GotM ⟨r, wt, bk, cy, key, ds, ps, cs, es⟩ gx wx ∧ Below w8.heap.size w8 wx))
    case first =>
      go_region_held3 (fun w' => AnyW w')
        (exact anyW _)
        (first
          | (go_at_call 15; (with_reducible show Calls _ _ #[.slice (some ⟨lq, 0, none⟩) 2 2] _ _); refine (HQ1.out _  (by first | exact ls_drew HL1.out | exact ls_drew (HL1.out.below ((Below.refl _ _).alloc (Nat.le_refl _) _)))).mono ?_; rintro e w6 ⟨rfl, rfl⟩)
          | (go_at_call 12; (with_reducible show Calls _ _ _ (World.drew w8) _); refine (parse_own _ (P1 ++ P2) HPS.out (by exact tab_drew HB.out.tab) (k := 0) (no := 0) (by rw [HPO.out])).mono ?_; rintro e wx ⟨⟨rx, wtx, bkx, cyx, keyx, dsx, psx, csx, esx⟩, Adx, Apx, Acx, Aex, cdx, cpx, ccx, cex, rfl, hbx, hmx, hsx, hb⟩; rw [HPO.out] at hbx; have HA1 := Lib.hid hbx; have HA2 := Lib.hid hmx; have HA3 := Lib.hid hsx; have HA4 := Lib.hid hb; clear hbx hmx hsx hb; unfold Mat.val; simp only)
          | (go_at_call 12; refine (parse_own _ (P1 ++ P2) HPS.out (by exact tab_drew (HB.out.alloc _).tab) (k := 0) (no := 0) (by rw [HPO.out])).mono ?_; rintro e wx ⟨⟨rx, wtx, bkx, cyx, keyx, dsx, psx, csx, esx⟩, Adx, Apx, Acx, Aex, cdx, cpx, ccx, cex, rfl, hbx, hmx, hsx, hb⟩; rw [HPO.out] at hbx; have HA1 := Lib.hid hbx; have HA2 := Lib.hid hmx; have HA3 := Lib.hid hsx; have HA5 : Hid (Below (w8.heap.size + 1) (w8.alloc (.cells zeroMV 27)) wx) := Lib.hid (made_below hb); have hkb : Words.Blk wx w8.heap.size 27 zeroMV := (Words.Blk.new w8 _ _).below (by simpa using HA5.out) (by simp); have r0 : wx.cell? ⟨w8.heap.size, 0, none⟩ = some (.int .i64 0) := hkb.cell 0; have s0 : wx.frozen? ⟨w8.heap.size, 0, none⟩ = false := hkb.frozen 0; have r1 : wx.cell? ⟨w8.heap.size, 1, none⟩ = some (.int .i64 0) := hkb.cell 1; have s1 : wx.frozen? ⟨w8.heap.size, 1, none⟩ = false := hkb.frozen 1; have r2 : wx.cell? ⟨w8.heap.size, 2, none⟩ = some (.int .i64 0) := hkb.cell 2; have s2 : wx.frozen? ⟨w8.heap.size, 2, none⟩ = false := hkb.frozen 2; have r3 : wx.cell? ⟨w8.heap.size, 3, none⟩ = some (.int .i64 0) := hkb.cell 3; have s3 : wx.frozen? ⟨w8.heap.size, 3, none⟩ = false := hkb.frozen 3; have r4 : wx.cell? ⟨w8.heap.size, 4, none⟩ = some (.string (ByteArray.mk #[])) := hkb.cell 4; have s4 : wx.frozen? ⟨w8.heap.size, 4, none⟩ = false := hkb.frozen 4; have r5 : wx.cell? ⟨w8.heap.size, 5, none⟩ = some (.slice none 0 0) := hkb.cell 5; have s5 : wx.frozen? ⟨w8.heap.size, 5, none⟩ = false := hkb.frozen 5; have r6 : wx.cell? ⟨w8.heap.size, 6, none⟩ = some (.slice none 0 0) := hkb.cell 6; have s6 : wx.frozen? ⟨w8.heap.size, 6, none⟩ = false := hkb.frozen 6; have r7 : wx.cell? ⟨w8.heap.size, 7, none⟩ = some (.slice none 0 0) := hkb.cell 7; have s7 : wx.frozen? ⟨w8.heap.size, 7, none⟩ = false := hkb.frozen 7; have r8 : wx.cell? ⟨w8.heap.size, 8, none⟩ = some (.slice none 0 0) := hkb.cell 8; have s8 : wx.frozen? ⟨w8.heap.size, 8, none⟩ = false := hkb.frozen 8; clear hbx hmx hsx hb hkb; unfold Mat.val; simp only)
          | (go_at_call 15; (with_reducible show Calls _ _ #[.slice (some ⟨lb, lo + 4, none⟩) (n - 2) (c - 2)] _ _); refine (HQ2.out _  (by first | exact ls_drew HL2.out | exact ls_drew (HL2.out.below ((Below.refl _ _).alloc (Nat.le_refl _) _)))).mono ?_; rintro e w6 ⟨rfl, rfl⟩))
      · go_wp2_with fail
        go_meet
        exact ⟨_, rfl, rfl, rfl, Lib.hid ⟨⟨⟨rx, wtx, bkx, cyx, keyx, dsx, psx, csx, esx⟩, Adx, Apx, Acx, Aex, cdx, cpx, ccx, cex, HA1.out, HA3.out, HA2.out.mat.below ((Below.refl _ _).alloc (Nat.le_refl _) _), Words.Blk.new _ _ _⟩, (un_drew HA4.out).alloc (un_drew HA4.out).size _⟩⟩
      · go_wp2_with fail
        go_meet
        exact ⟨_, rfl, rfl, rfl, Lib.hid (got_stored HA5.out HA1.out HA3.out HA2.out rfl)⟩
      · go_wp2_with fail
        go_meet
        exact ⟨_, rfl, rfl, rfl, Lib.hid (got_stored HA5.out HA1.out HA3.out HA2.out rfl)⟩
      · go_wp2_with fail
        go_meet
        exact ⟨_, rfl, rfl, rfl, Lib.hid (got_stored HA5.out HA1.out HA3.out HA2.out rfl)⟩
    case rest =>
    obtain ⟨gx, rfl, rfl, rfl, HG⟩ := hcut
    obtain ⟨wy, hwy⟩ : ∃ wy, wy = wc := ⟨_, rfl⟩
    subst hwy
    have HB := Lib.hid (HB.out.below HG.out.2)
    obtain ⟨⟨⟨rx, wtx, bkx, cyx, keyx, dsx, psx, csx, esx⟩, Adx, Apx, Acx, Aex, cdx, cpx, ccx, cex, hbx, hsx, hmx, hkx⟩, hgb⟩ := HG.out
    have HXS := Lib.hid hsx
    have HXB := Lib.hid hbx
    have HXX := Lib.hid (⟨Below.refl _ _, hmx, hkx, HB.out.tab, HB.out.tab10⟩ : HdIs wy gx ⟨rx, wtx, bkx, cyx, keyx, dsx, psx, csx, esx⟩ (.slice Adx dsx.length cdx) (.slice Apx psx.length cpx) (.slice Acx csx.length ccx) (.slice Aex esx.length cex) #[.int .i64 rx, .int .i64 wtx, .int .i64 bkx, .int .i64 cyx, .string keyx, .slice Adx dsx.length cdx, .slice Apx psx.length cpx, .slice Acx csx.length ccx, .slice Aex esx.length cex] wy)
    have HLS := Lib.hid (HLS.out.below hgb)
    have HOLD := Lib.hid (HOLD.out.trans (hgb.mono HOLD.out.size))
    clear hbx hsx hmx hkx hgb HG HL1 HL2 HQ1 HQ2 HPS HPO hcat hp1 hp2
    go_upto_region 10 with fail
    obtain ⟨y00, y01, y10, y11, y20, y21⟩ := H3C.out wy HOLD.out
    have za : ∀ ob : Obj, (wy.alloc ob).cell? ⟨lb, lo, none⟩ = some (.int .i64 n0) ∧ (wy.alloc ob).cell? ⟨lb, lo + 1, none⟩ = some (.slice va0 m0 vc0) ∧ (wy.alloc ob).cell? ⟨lb, lo + 2, none⟩ = some (.int .i64 n1) ∧ (wy.alloc ob).cell? ⟨lb, lo + 2 + 1, none⟩ = some (.slice va1 m1 vc1) ∧ (wy.alloc ob).cell? ⟨lb, lo + 4, none⟩ = some (.int .i64 n2) ∧ (wy.alloc ob).cell? ⟨lb, lo + 4 + 1, none⟩ = some (.slice va2 m2 vc2) := fun ob => H3C.out _ (HOLD.out.trans (((Below.refl _ _).alloc (Nat.le_refl _) ob).mono HOLD.out.size))
    go_region_held3 (fun w' => w'.cell? ⟨lb, lo, none⟩ = some (.int .i64 n0) ∧ w'.cell? ⟨lb, lo + 1, none⟩ = some (.slice va0 m0 vc0) ∧ w'.cell? ⟨lb, lo + 2, none⟩ = some (.int .i64 n1) ∧ w'.cell? ⟨lb, lo + 2 + 1, none⟩ = some (.slice va1 m1 vc1) ∧ w'.cell? ⟨lb, lo + 4, none⟩ = some (.int .i64 n2) ∧ w'.cell? ⟨lb, lo + 4 + 1, none⟩ = some (.slice va2 m2 vc2))
      (first | exact ⟨y00, y01, y10, y11, y20, y21⟩ | exact za _)
      (fail)
    clear y00 y01 y10 y11 y20 y21 za
    have HL1 : Hid (LsAt ((wy.alloc (.cells #[.int .i64 n2, .slice va2 m2 vc2, .int .i64 n0, .slice va0 m0 vc0, .int .i64 n1, .slice va1 m1 vc1] 50)).drew) [⟨n2, .slice va2 m2 vc2, ws2⟩, ⟨n0, .slice va0 m0 vc0, ws0⟩, ⟨n1, .slice va1 m1 vc1, ws1⟩] (.slice (some ⟨wy.heap.size, 0, none⟩) 3 3)) := Lib.hid (lit_lns wy [⟨n2, .slice va2 m2 vc2, ws2⟩, ⟨n0, .slice va0 m0 vc0, ws0⟩, ⟨n1, .slice va1 m1 vc1, ws1⟩] (by simp) (fun x hx => by
      have := HF.out
      simp only [List.mem_cons, List.not_mem_nil, or_false] at hx
      rcases hx with rfl | rfl | rfl
      · exact ⟨LawFrame.RowsAt.below HS2.out (HOLD.out.mono (Nat.le_refl _)), by simp only; omega⟩
      · exact ⟨LawFrame.RowsAt.below HS0.out (HOLD.out.mono (Nat.le_refl _)), by simp only; omega⟩
      · exact ⟨LawFrame.RowsAt.below HS1.out (HOLD.out.mono (Nat.le_refl _)), by simp only; omega⟩))
    have hbl : Below wy.heap.size wy ((wy.alloc (.cells #[.int .i64 n2, .slice va2 m2 vc2, .int .i64 n0, .slice va0 m0 vc0, .int .i64 n1, .slice va1 m1 vc1] 50)).drewN 1) := below_drewn ((Below.refl _ _).alloc (Nat.le_refl _) _) 1
    have HB := Lib.hid (HB.out.below hbl)
    have HXX := Lib.hid (HXX.out.below hbl)
    have HLS := Lib.hid (HLS.out.below hbl)
    clear hbl
    change Hid (HdIs _ _ _ _ _ _ _ _ ((wy.alloc (.cells #[.int .i64 n2, .slice va2 m2 vc2, .int .i64 n0, .slice va0 m0 vc0, .int .i64 n1, .slice va1 m1 vc1] 50)).drew)) at HB
    change Hid (HdIs _ _ _ _ _ _ _ _ ((wy.alloc (.cells #[.int .i64 n2, .slice va2 m2 vc2, .int .i64 n0, .slice va0 m0 vc0, .int .i64 n1, .slice va1 m1 vc1] 50)).drew)) at HXX
    change Hid (LsAt ((wy.alloc (.cells #[.int .i64 n2, .slice va2 m2 vc2, .int .i64 n0, .slice va0 m0 vc0, .int .i64 n1, .slice va1 m1 vc1] 50)).drew) _ _) at HLS
    clear HOLD H3C
    generalize (wy.alloc (.cells #[.int .i64 n2, .slice va2 m2 vc2, .int .i64 n0, .slice va0 m0 vc0, .int .i64 n1, .slice va1 m1 vc1] 50)).drew = w10 at *
    obtain ⟨lr, hlr⟩ : ∃ lr, lr = wy.heap.size := ⟨_, rfl⟩
    rw [← hlr] at HL1 ⊢
    clear hlr
    obtain ⟨P3, hP3⟩ : ∃ P, P = toB (printL (bytesL [devW d, watchW ⟨r, wt, bk, cy, key, ds, ps, cs, es⟩, keyW ⟨r, wt, bk, cy, key, ds, ps, cs, es⟩])) := ⟨_, rfl⟩
    obtain ⟨P4, hP4⟩ : ∃ P, P = toB (printL (bytesL ((tailOf ⟨r, wt, bk, cy, key, ds, ps, cs, es⟩).drop 1))) := ⟨_, rfl⟩
    have hsz := HSZ.out
    have hlen : (printL (bytesL (linesOf ⟨r, wt, bk, cy, key, ds, ps, cs, es⟩))).length = (printL (bytesL [devW d, watchW ⟨r, wt, bk, cy, key, ds, ps, cs, es⟩, keyW ⟨r, wt, bk, cy, key, ds, ps, cs, es⟩])).length + (printL (bytesL ((tailOf ⟨r, wt, bk, cy, key, ds, ps, cs, es⟩).drop 1))).length := by
      have e3 : linesOf ⟨r, wt, bk, cy, key, ds, ps, cs, es⟩ = [watchW ⟨r, wt, bk, cy, key, ds, ps, cs, es⟩, keyW ⟨r, wt, bk, cy, key, ds, ps, cs, es⟩] ++ [devW d] ++ (tailOf ⟨r, wt, bk, cy, key, ds, ps, cs, es⟩).drop 1 := by
        unfold linesOf
        rw [List.append_assoc]
        exact congrArg _ HTL.out
      rw [e3, print_len_perm]
      show (printL (bytesL ([devW d, watchW ⟨r, wt, bk, cy, key, ds, ps, cs, es⟩, keyW ⟨r, wt, bk, cy, key, ds, ps, cs, es⟩] ++ (tailOf ⟨r, wt, bk, cy, key, ds, ps, cs, es⟩).drop 1))).length = _
      rw [bytesL_append, printL_append, List.length_append]
    have hbs2 := HTO.out.sub 3 (n - 3)
    rw [drop3, List.take_of_length_le (l := (tailOf ⟨r, wt, bk, cy, key, ds, ps, cs, es⟩).drop 1) (by have h := HTO.out.len; rw [← HN.out] at h; unfold linesOf at h; simp at h ⊢; omega)] at hbs2
    have HQ1 := Lib.hid (fun W => still_print (w := W) (xs := [⟨n2, .slice va2 m2 vc2, ws2⟩, ⟨n0, .slice va0 m0 vc0, ws0⟩, ⟨n1, .slice va1 m1 vc1, ws1⟩]) (v := .slice (some ⟨lr, 0, none⟩) 3 3) (ls := [devW d, watchW ⟨r, wt, bk, cy, key, ds, ps, cs, es⟩, keyW ⟨r, wt, bk, cy, key, ds, ps, cs, es⟩]) (P := P3) (by simp only [List.map_cons, List.map_nil, bytesL]; rw [← HB0.out, ← HB1.out, ← HB2.out]) hP3 (by simp) (fun x hx => by
      have := HF.out
      simp only [List.mem_cons, List.not_mem_nil, or_false] at hx
      rcases hx with rfl | rfl | rfl <;> (simp only; omega)) (by omega))
    have HPS := Lib.hid (show (P3 ++ P4).size ≤ 1000000 by rw [concat_size, hP3, hP4, toB_size, toB_size]; omega)
    have hp1 : P3.size ≤ 4096 := by rw [hP3, toB_size]; omega
    have hp2 : P4.size ≤ 4096 := by rw [hP4, toB_size]; omega
    have HPO : Hid (parseO (P3 ++ P4).data.toList = ((⟨r, wt, bk, cy, key, ds, ps, cs, es⟩ : Mat).bare, 0, 0)) := Lib.hid (by rw [hP3, hP4, toB_append, toB_list, ← printL_append, ← bytesL_append]; exact parse_first HR.out HDV.out HTL.out HSZ.out)
    have HQ4 := Lib.hid (fun W v => still_print (w := W) (xs := (xs.drop 3).take (n - 3)) (v := v) (ls := (tailOf ⟨r, wt, bk, cy, key, ds, ps, cs, es⟩).drop 1) (P := P4) hbs2 hP4 (by simp; omega) (fun x hx => by have := HTO.out.few x (List.mem_of_mem_drop (List.mem_of_mem_take hx)); omega) (by omega))
    have hi3' : (3 : Int) ≤ (n : Int) := by have := H3.out; omega
    have hi3c : (3 : Int) ≤ (c : Int) := by have := H3.out; omega
    have hcat : ¬ 9223372036854775807 < P3.size + P4.size := by omega
    clear hP3 hP4 hsz hlen hbs2 hcn2
    by_cases hc3 : c = 3
    · subst hc3
      obtain rfl : n = 3 := by have := H3.out; omega
      have HL4 : Hid (LsAt w10 ((xs.drop 3).take (3 - 3)) (.slice (some ⟨lb, lo, none⟩) 0 0)) := Lib.hid (by rw [Nat.sub_self, List.take_zero]; exact ls_none)
      go_upto_region 11 with fail
      go_cut [13, 14, 15] (fun p e i wx => ∃ gx : Nat, p = .pointer (some ⟨gx, 0, none⟩) ∧ e = .int .i64 0 ∧ i = .int .i64 0 ∧ Hid (GotM ⟨r, wt, bk, cy, key, ds, ps, cs, es⟩ gx wx ∧ Below w10.heap.size w10 wx))
      case first =>
        go_region_held3 (fun w' => AnyW w')
          (exact anyW _)
          (first
            | (go_at_call 15; (with_reducible show Calls _ _ #[.slice (some ⟨lr, 0, none⟩) 3 3] _ _); refine (HQ1.out _  (by first | exact ls_drew HL1.out | exact ls_drew (HL1.out.below ((Below.refl _ _).alloc (Nat.le_refl _) _)))).mono ?_; rintro e w6 ⟨rfl, rfl⟩)
            | (go_at_call 12; (with_reducible show Calls _ _ _ (World.drew w10) _); refine (parse_own _ (P3 ++ P4) HPS.out (by exact tab_drew HB.out.tab) (k := 0) (no := 0) (by rw [HPO.out])).mono ?_; rintro e wx ⟨⟨rx, wtx, bkx, cyx, keyx, dsx, psx, csx, esx⟩, Adx, Apx, Acx, Aex, cdx, cpx, ccx, cex, rfl, hbx, hmx, hsx, hb⟩; rw [HPO.out] at hbx; have HA1 := Lib.hid hbx; have HA2 := Lib.hid hmx; have HA3 := Lib.hid hsx; have HA4 := Lib.hid hb; clear hbx hmx hsx hb; unfold Mat.val; simp only)
            | (go_at_call 12; refine (parse_own _ (P3 ++ P4) HPS.out (by exact tab_drew (HB.out.alloc _).tab) (k := 0) (no := 0) (by rw [HPO.out])).mono ?_; rintro e wx ⟨⟨rx, wtx, bkx, cyx, keyx, dsx, psx, csx, esx⟩, Adx, Apx, Acx, Aex, cdx, cpx, ccx, cex, rfl, hbx, hmx, hsx, hb⟩; rw [HPO.out] at hbx; have HA1 := Lib.hid hbx; have HA2 := Lib.hid hmx; have HA3 := Lib.hid hsx; have HA5 : Hid (Below (w10.heap.size + 1) (w10.alloc (.cells zeroMV 27)) wx) := Lib.hid (made_below hb); have hkb : Words.Blk wx w10.heap.size 27 zeroMV := (Words.Blk.new w10 _ _).below (by simpa using HA5.out) (by simp); have r0 : wx.cell? ⟨w10.heap.size, 0, none⟩ = some (.int .i64 0) := hkb.cell 0; have s0 : wx.frozen? ⟨w10.heap.size, 0, none⟩ = false := hkb.frozen 0; have r1 : wx.cell? ⟨w10.heap.size, 1, none⟩ = some (.int .i64 0) := hkb.cell 1; have s1 : wx.frozen? ⟨w10.heap.size, 1, none⟩ = false := hkb.frozen 1; have r2 : wx.cell? ⟨w10.heap.size, 2, none⟩ = some (.int .i64 0) := hkb.cell 2; have s2 : wx.frozen? ⟨w10.heap.size, 2, none⟩ = false := hkb.frozen 2; have r3 : wx.cell? ⟨w10.heap.size, 3, none⟩ = some (.int .i64 0) := hkb.cell 3; have s3 : wx.frozen? ⟨w10.heap.size, 3, none⟩ = false := hkb.frozen 3; have r4 : wx.cell? ⟨w10.heap.size, 4, none⟩ = some (.string (ByteArray.mk #[])) := hkb.cell 4; have s4 : wx.frozen? ⟨w10.heap.size, 4, none⟩ = false := hkb.frozen 4; have r5 : wx.cell? ⟨w10.heap.size, 5, none⟩ = some (.slice none 0 0) := hkb.cell 5; have s5 : wx.frozen? ⟨w10.heap.size, 5, none⟩ = false := hkb.frozen 5; have r6 : wx.cell? ⟨w10.heap.size, 6, none⟩ = some (.slice none 0 0) := hkb.cell 6; have s6 : wx.frozen? ⟨w10.heap.size, 6, none⟩ = false := hkb.frozen 6; have r7 : wx.cell? ⟨w10.heap.size, 7, none⟩ = some (.slice none 0 0) := hkb.cell 7; have s7 : wx.frozen? ⟨w10.heap.size, 7, none⟩ = false := hkb.frozen 7; have r8 : wx.cell? ⟨w10.heap.size, 8, none⟩ = some (.slice none 0 0) := hkb.cell 8; have s8 : wx.frozen? ⟨w10.heap.size, 8, none⟩ = false := hkb.frozen 8; clear hbx hmx hsx hb hkb; unfold Mat.val; simp only)
            | (go_at_call 15; (with_reducible show Calls _ _ #[.slice (some ⟨lb, lo, none⟩) 0 0] _ _); refine (HQ4.out _ _ (by first | exact ls_drew HL4.out | exact ls_drew (HL4.out.below ((Below.refl _ _).alloc (Nat.le_refl _) _)))).mono ?_; rintro e w6 ⟨rfl, rfl⟩))
        · go_wp2_with fail
          go_meet
          exact ⟨_, rfl, rfl, rfl, Lib.hid ⟨⟨⟨rx, wtx, bkx, cyx, keyx, dsx, psx, csx, esx⟩, Adx, Apx, Acx, Aex, cdx, cpx, ccx, cex, HA1.out, HA3.out, HA2.out.mat.below ((Below.refl _ _).alloc (Nat.le_refl _) _), Words.Blk.new _ _ _⟩, (un_drew HA4.out).alloc (un_drew HA4.out).size _⟩⟩
        · go_wp2_with fail
          go_meet
          exact ⟨_, rfl, rfl, rfl, Lib.hid (got_stored HA5.out HA1.out HA3.out HA2.out rfl)⟩
        · go_wp2_with fail
          go_meet
          exact ⟨_, rfl, rfl, rfl, Lib.hid (got_stored HA5.out HA1.out HA3.out HA2.out rfl)⟩
        · go_wp2_with fail
          go_meet
          exact ⟨_, rfl, rfl, rfl, Lib.hid (got_stored HA5.out HA1.out HA3.out HA2.out rfl)⟩
      case rest =>
      obtain ⟨gz, rfl, rfl, rfl, HG⟩ := hcut
      obtain ⟨wz, hwy⟩ : ∃ wy, wy = wc := ⟨_, rfl⟩
      subst hwy
      have HB := Lib.hid (HB.out.below HG.out.2)
      obtain ⟨⟨⟨rz, wtz, bkz, cyz, keyz, dsz, psz, csz, esz⟩, Adz, Apz, Acz, Aez, cdz, cpz, ccz, cez, hbx, hsx, hmx, hkx⟩, hgb⟩ := HG.out
      have HZS := Lib.hid hsx
      have HZB := Lib.hid hbx
      have HZZ := Lib.hid (⟨Below.refl _ _, hmx, hkx, HB.out.tab, HB.out.tab10⟩ : HdIs wz gz ⟨rz, wtz, bkz, cyz, keyz, dsz, psz, csz, esz⟩ (.slice Adz dsz.length cdz) (.slice Apz psz.length cpz) (.slice Acz csz.length ccz) (.slice Aez esz.length cez) #[.int .i64 rz, .int .i64 wtz, .int .i64 bkz, .int .i64 cyz, .string keyz, .slice Adz dsz.length cdz, .slice Apz psz.length cpz, .slice Acz csz.length ccz, .slice Aez esz.length cez] wz)
      have HXX := Lib.hid (HXX.out.below hgb)
      clear hbx hsx hmx hkx hgb HG HL1 HL4 HQ1 HQ4 HLS HPS HPO hcat hp1 hp2
      have z0 : wz.cell? ⟨w.heap.size, 0, none⟩ = some (.int .i64 r) := HB.out.box.cell 0
      have z1 : wz.cell? ⟨w.heap.size, 1, none⟩ = some (.int .i64 wt) := HB.out.box.cell 1
      have z2 : wz.cell? ⟨w.heap.size, 2, none⟩ = some (.int .i64 bk) := HB.out.box.cell 2
      have z3 : wz.cell? ⟨w.heap.size, 3, none⟩ = some (.int .i64 cy) := HB.out.box.cell 3
      have z4 : wz.cell? ⟨w.heap.size, 4, none⟩ = some (.string key) := HB.out.box.cell 4
      have z5 : wz.cell? ⟨w.heap.size, 5, none⟩ = some (.slice Ad ds.length cd) := HB.out.box.cell 5
      have z6 : wz.cell? ⟨w.heap.size, 6, none⟩ = some (.slice Ap ps.length cp) := HB.out.box.cell 6
      have z7 : wz.cell? ⟨w.heap.size, 7, none⟩ = some (.slice Ac cs.length cc) := HB.out.box.cell 7
      have z8 : wz.cell? ⟨w.heap.size, 8, none⟩ = some (.slice Ae es.length ce) := HB.out.box.cell 8
      have x0 : wz.cell? ⟨gx, 0, none⟩ = some (.int .i64 rx) := HXX.out.box.cell 0
      have x1 : wz.cell? ⟨gx, 1, none⟩ = some (.int .i64 wtx) := HXX.out.box.cell 1
      have x2 : wz.cell? ⟨gx, 2, none⟩ = some (.int .i64 bkx) := HXX.out.box.cell 2
      have x3 : wz.cell? ⟨gx, 3, none⟩ = some (.int .i64 cyx) := HXX.out.box.cell 3
      have x4 : wz.cell? ⟨gx, 4, none⟩ = some (.string keyx) := HXX.out.box.cell 4
      have x5 : wz.cell? ⟨gx, 5, none⟩ = some (.slice Adx dsx.length cdx) := HXX.out.box.cell 5
      have x6 : wz.cell? ⟨gx, 6, none⟩ = some (.slice Apx psx.length cpx) := HXX.out.box.cell 6
      have x7 : wz.cell? ⟨gx, 7, none⟩ = some (.slice Acx csx.length ccx) := HXX.out.box.cell 7
      have x8 : wz.cell? ⟨gx, 8, none⟩ = some (.slice Aex esx.length cex) := HXX.out.box.cell 8
      go_wp2_with fail
      clear z0 z1 z2 z3 z4 z5 z6 z7 z8
      clear x0 x1 x2 x3 x4 x5 x6 x7 x8
      refine (sameM_any _ ⟨rx, wtx, bkx, cyx, keyx, dsx, psx, csx, esx⟩ ⟨r, wt, bk, cy, key, ds, ps, cs, es⟩ _ _ _ _ _ _ _ _ HXX.out.mat HB.out.mat HXS.out (right_small HR.out)).mono ?_
      rintro e w12 ⟨b, rfl, hbr, hb⟩
      obtain rfl : b = true := hbr.2 (by rw [HXB.out])
      have HZZ := Lib.hid (HZZ.out.below hb)
      have HB := Lib.hid (HB.out.below hb)
      clear hb
      clear hbr HXX HXS HXB
      have z0 : w12.cell? ⟨w.heap.size, 0, none⟩ = some (.int .i64 r) := HB.out.box.cell 0
      have z1 : w12.cell? ⟨w.heap.size, 1, none⟩ = some (.int .i64 wt) := HB.out.box.cell 1
      have z2 : w12.cell? ⟨w.heap.size, 2, none⟩ = some (.int .i64 bk) := HB.out.box.cell 2
      have z3 : w12.cell? ⟨w.heap.size, 3, none⟩ = some (.int .i64 cy) := HB.out.box.cell 3
      have z4 : w12.cell? ⟨w.heap.size, 4, none⟩ = some (.string key) := HB.out.box.cell 4
      have z5 : w12.cell? ⟨w.heap.size, 5, none⟩ = some (.slice Ad ds.length cd) := HB.out.box.cell 5
      have z6 : w12.cell? ⟨w.heap.size, 6, none⟩ = some (.slice Ap ps.length cp) := HB.out.box.cell 6
      have z7 : w12.cell? ⟨w.heap.size, 7, none⟩ = some (.slice Ac cs.length cc) := HB.out.box.cell 7
      have z8 : w12.cell? ⟨w.heap.size, 8, none⟩ = some (.slice Ae es.length ce) := HB.out.box.cell 8
      have x0 : w12.cell? ⟨gz, 0, none⟩ = some (.int .i64 rz) := HZZ.out.box.cell 0
      have x1 : w12.cell? ⟨gz, 1, none⟩ = some (.int .i64 wtz) := HZZ.out.box.cell 1
      have x2 : w12.cell? ⟨gz, 2, none⟩ = some (.int .i64 bkz) := HZZ.out.box.cell 2
      have x3 : w12.cell? ⟨gz, 3, none⟩ = some (.int .i64 cyz) := HZZ.out.box.cell 3
      have x4 : w12.cell? ⟨gz, 4, none⟩ = some (.string keyz) := HZZ.out.box.cell 4
      have x5 : w12.cell? ⟨gz, 5, none⟩ = some (.slice Adz dsz.length cdz) := HZZ.out.box.cell 5
      have x6 : w12.cell? ⟨gz, 6, none⟩ = some (.slice Apz psz.length cpz) := HZZ.out.box.cell 6
      have x7 : w12.cell? ⟨gz, 7, none⟩ = some (.slice Acz csz.length ccz) := HZZ.out.box.cell 7
      have x8 : w12.cell? ⟨gz, 8, none⟩ = some (.slice Aez esz.length cez) := HZZ.out.box.cell 8
      go_wp2_with fail
      clear z0 z1 z2 z3 z4 z5 z6 z7 z8
      clear x0 x1 x2 x3 x4 x5 x6 x7 x8
      refine (sameM_any _ ⟨rz, wtz, bkz, cyz, keyz, dsz, psz, csz, esz⟩ ⟨r, wt, bk, cy, key, ds, ps, cs, es⟩ _ _ _ _ _ _ _ _ HZZ.out.mat HB.out.mat HZS.out (right_small HR.out)).mono ?_
      rintro e w13 ⟨b, rfl, hbr, hb⟩
      obtain rfl : b = true := hbr.2 (by rw [HZB.out])
      have HB := Lib.hid (HB.out.below hb)
      clear hb
      clear hbr
      go_wp2_with fail
      go_ret
      exact ⟨rfl, HB.out.old⟩
    · have HL4 : Hid (LsAt w10 ((xs.drop 3).take (n - 3)) (.slice (some ⟨lb, lo + 6, none⟩) (n - 3) (c - 3))) := Lib.hid (ls_sub (a := 3) (k := n - 3) (by have := HLS.out; rw [HN.out] at this; exact this) (by rw [← HN.out]; omega))
      go_upto_region 11 with fail
      go_cut [13, 14, 15] (fun p e i wx => ∃ gx : Nat, p = .pointer (some ⟨gx, 0, none⟩) ∧ e = .int .i64 0 ∧ i = .int .i64 0 ∧ Hid (GotM ⟨r, wt, bk, cy, key, ds, ps, cs, es⟩ gx wx ∧ Below w10.heap.size w10 wx))
      case first =>
        go_region_held3 (fun w' => AnyW w')
          (exact anyW _)
          (first
            | (go_at_call 15; (with_reducible show Calls _ _ #[.slice (some ⟨lr, 0, none⟩) 3 3] _ _); refine (HQ1.out _  (by first | exact ls_drew HL1.out | exact ls_drew (HL1.out.below ((Below.refl _ _).alloc (Nat.le_refl _) _)))).mono ?_; rintro e w6 ⟨rfl, rfl⟩)
            | (go_at_call 12; (with_reducible show Calls _ _ _ (World.drew w10) _); refine (parse_own _ (P3 ++ P4) HPS.out (by exact tab_drew HB.out.tab) (k := 0) (no := 0) (by rw [HPO.out])).mono ?_; rintro e wx ⟨⟨rx, wtx, bkx, cyx, keyx, dsx, psx, csx, esx⟩, Adx, Apx, Acx, Aex, cdx, cpx, ccx, cex, rfl, hbx, hmx, hsx, hb⟩; rw [HPO.out] at hbx; have HA1 := Lib.hid hbx; have HA2 := Lib.hid hmx; have HA3 := Lib.hid hsx; have HA4 := Lib.hid hb; clear hbx hmx hsx hb; unfold Mat.val; simp only)
            | (go_at_call 12; refine (parse_own _ (P3 ++ P4) HPS.out (by exact tab_drew (HB.out.alloc _).tab) (k := 0) (no := 0) (by rw [HPO.out])).mono ?_; rintro e wx ⟨⟨rx, wtx, bkx, cyx, keyx, dsx, psx, csx, esx⟩, Adx, Apx, Acx, Aex, cdx, cpx, ccx, cex, rfl, hbx, hmx, hsx, hb⟩; rw [HPO.out] at hbx; have HA1 := Lib.hid hbx; have HA2 := Lib.hid hmx; have HA3 := Lib.hid hsx; have HA5 : Hid (Below (w10.heap.size + 1) (w10.alloc (.cells zeroMV 27)) wx) := Lib.hid (made_below hb); have hkb : Words.Blk wx w10.heap.size 27 zeroMV := (Words.Blk.new w10 _ _).below (by simpa using HA5.out) (by simp); have r0 : wx.cell? ⟨w10.heap.size, 0, none⟩ = some (.int .i64 0) := hkb.cell 0; have s0 : wx.frozen? ⟨w10.heap.size, 0, none⟩ = false := hkb.frozen 0; have r1 : wx.cell? ⟨w10.heap.size, 1, none⟩ = some (.int .i64 0) := hkb.cell 1; have s1 : wx.frozen? ⟨w10.heap.size, 1, none⟩ = false := hkb.frozen 1; have r2 : wx.cell? ⟨w10.heap.size, 2, none⟩ = some (.int .i64 0) := hkb.cell 2; have s2 : wx.frozen? ⟨w10.heap.size, 2, none⟩ = false := hkb.frozen 2; have r3 : wx.cell? ⟨w10.heap.size, 3, none⟩ = some (.int .i64 0) := hkb.cell 3; have s3 : wx.frozen? ⟨w10.heap.size, 3, none⟩ = false := hkb.frozen 3; have r4 : wx.cell? ⟨w10.heap.size, 4, none⟩ = some (.string (ByteArray.mk #[])) := hkb.cell 4; have s4 : wx.frozen? ⟨w10.heap.size, 4, none⟩ = false := hkb.frozen 4; have r5 : wx.cell? ⟨w10.heap.size, 5, none⟩ = some (.slice none 0 0) := hkb.cell 5; have s5 : wx.frozen? ⟨w10.heap.size, 5, none⟩ = false := hkb.frozen 5; have r6 : wx.cell? ⟨w10.heap.size, 6, none⟩ = some (.slice none 0 0) := hkb.cell 6; have s6 : wx.frozen? ⟨w10.heap.size, 6, none⟩ = false := hkb.frozen 6; have r7 : wx.cell? ⟨w10.heap.size, 7, none⟩ = some (.slice none 0 0) := hkb.cell 7; have s7 : wx.frozen? ⟨w10.heap.size, 7, none⟩ = false := hkb.frozen 7; have r8 : wx.cell? ⟨w10.heap.size, 8, none⟩ = some (.slice none 0 0) := hkb.cell 8; have s8 : wx.frozen? ⟨w10.heap.size, 8, none⟩ = false := hkb.frozen 8; clear hbx hmx hsx hb hkb; unfold Mat.val; simp only)
            | (go_at_call 15; (with_reducible show Calls _ _ #[.slice (some ⟨lb, lo + 6, none⟩) (n - 3) (c - 3)] _ _); refine (HQ4.out _ _ (by first | exact ls_drew HL4.out | exact ls_drew (HL4.out.below ((Below.refl _ _).alloc (Nat.le_refl _) _)))).mono ?_; rintro e w6 ⟨rfl, rfl⟩))
        · go_wp2_with fail
          go_meet
          exact ⟨_, rfl, rfl, rfl, Lib.hid ⟨⟨⟨rx, wtx, bkx, cyx, keyx, dsx, psx, csx, esx⟩, Adx, Apx, Acx, Aex, cdx, cpx, ccx, cex, HA1.out, HA3.out, HA2.out.mat.below ((Below.refl _ _).alloc (Nat.le_refl _) _), Words.Blk.new _ _ _⟩, (un_drew HA4.out).alloc (un_drew HA4.out).size _⟩⟩
        · go_wp2_with fail
          go_meet
          exact ⟨_, rfl, rfl, rfl, Lib.hid (got_stored HA5.out HA1.out HA3.out HA2.out rfl)⟩
        · go_wp2_with fail
          go_meet
          exact ⟨_, rfl, rfl, rfl, Lib.hid (got_stored HA5.out HA1.out HA3.out HA2.out rfl)⟩
        · go_wp2_with fail
          go_meet
          exact ⟨_, rfl, rfl, rfl, Lib.hid (got_stored HA5.out HA1.out HA3.out HA2.out rfl)⟩
      case rest =>
      obtain ⟨gz, rfl, rfl, rfl, HG⟩ := hcut
      obtain ⟨wz, hwy⟩ : ∃ wy, wy = wc := ⟨_, rfl⟩
      subst hwy
      have HB := Lib.hid (HB.out.below HG.out.2)
      obtain ⟨⟨⟨rz, wtz, bkz, cyz, keyz, dsz, psz, csz, esz⟩, Adz, Apz, Acz, Aez, cdz, cpz, ccz, cez, hbx, hsx, hmx, hkx⟩, hgb⟩ := HG.out
      have HZS := Lib.hid hsx
      have HZB := Lib.hid hbx
      have HZZ := Lib.hid (⟨Below.refl _ _, hmx, hkx, HB.out.tab, HB.out.tab10⟩ : HdIs wz gz ⟨rz, wtz, bkz, cyz, keyz, dsz, psz, csz, esz⟩ (.slice Adz dsz.length cdz) (.slice Apz psz.length cpz) (.slice Acz csz.length ccz) (.slice Aez esz.length cez) #[.int .i64 rz, .int .i64 wtz, .int .i64 bkz, .int .i64 cyz, .string keyz, .slice Adz dsz.length cdz, .slice Apz psz.length cpz, .slice Acz csz.length ccz, .slice Aez esz.length cez] wz)
      have HXX := Lib.hid (HXX.out.below hgb)
      clear hbx hsx hmx hkx hgb HG HL1 HL4 HQ1 HQ4 HLS HPS HPO hcat hp1 hp2
      have z0 : wz.cell? ⟨w.heap.size, 0, none⟩ = some (.int .i64 r) := HB.out.box.cell 0
      have z1 : wz.cell? ⟨w.heap.size, 1, none⟩ = some (.int .i64 wt) := HB.out.box.cell 1
      have z2 : wz.cell? ⟨w.heap.size, 2, none⟩ = some (.int .i64 bk) := HB.out.box.cell 2
      have z3 : wz.cell? ⟨w.heap.size, 3, none⟩ = some (.int .i64 cy) := HB.out.box.cell 3
      have z4 : wz.cell? ⟨w.heap.size, 4, none⟩ = some (.string key) := HB.out.box.cell 4
      have z5 : wz.cell? ⟨w.heap.size, 5, none⟩ = some (.slice Ad ds.length cd) := HB.out.box.cell 5
      have z6 : wz.cell? ⟨w.heap.size, 6, none⟩ = some (.slice Ap ps.length cp) := HB.out.box.cell 6
      have z7 : wz.cell? ⟨w.heap.size, 7, none⟩ = some (.slice Ac cs.length cc) := HB.out.box.cell 7
      have z8 : wz.cell? ⟨w.heap.size, 8, none⟩ = some (.slice Ae es.length ce) := HB.out.box.cell 8
      have x0 : wz.cell? ⟨gx, 0, none⟩ = some (.int .i64 rx) := HXX.out.box.cell 0
      have x1 : wz.cell? ⟨gx, 1, none⟩ = some (.int .i64 wtx) := HXX.out.box.cell 1
      have x2 : wz.cell? ⟨gx, 2, none⟩ = some (.int .i64 bkx) := HXX.out.box.cell 2
      have x3 : wz.cell? ⟨gx, 3, none⟩ = some (.int .i64 cyx) := HXX.out.box.cell 3
      have x4 : wz.cell? ⟨gx, 4, none⟩ = some (.string keyx) := HXX.out.box.cell 4
      have x5 : wz.cell? ⟨gx, 5, none⟩ = some (.slice Adx dsx.length cdx) := HXX.out.box.cell 5
      have x6 : wz.cell? ⟨gx, 6, none⟩ = some (.slice Apx psx.length cpx) := HXX.out.box.cell 6
      have x7 : wz.cell? ⟨gx, 7, none⟩ = some (.slice Acx csx.length ccx) := HXX.out.box.cell 7
      have x8 : wz.cell? ⟨gx, 8, none⟩ = some (.slice Aex esx.length cex) := HXX.out.box.cell 8
      go_wp2_with fail
      clear z0 z1 z2 z3 z4 z5 z6 z7 z8
      clear x0 x1 x2 x3 x4 x5 x6 x7 x8
      refine (sameM_any _ ⟨rx, wtx, bkx, cyx, keyx, dsx, psx, csx, esx⟩ ⟨r, wt, bk, cy, key, ds, ps, cs, es⟩ _ _ _ _ _ _ _ _ HXX.out.mat HB.out.mat HXS.out (right_small HR.out)).mono ?_
      rintro e w12 ⟨b, rfl, hbr, hb⟩
      obtain rfl : b = true := hbr.2 (by rw [HXB.out])
      have HZZ := Lib.hid (HZZ.out.below hb)
      have HB := Lib.hid (HB.out.below hb)
      clear hb
      clear hbr HXX HXS HXB
      have z0 : w12.cell? ⟨w.heap.size, 0, none⟩ = some (.int .i64 r) := HB.out.box.cell 0
      have z1 : w12.cell? ⟨w.heap.size, 1, none⟩ = some (.int .i64 wt) := HB.out.box.cell 1
      have z2 : w12.cell? ⟨w.heap.size, 2, none⟩ = some (.int .i64 bk) := HB.out.box.cell 2
      have z3 : w12.cell? ⟨w.heap.size, 3, none⟩ = some (.int .i64 cy) := HB.out.box.cell 3
      have z4 : w12.cell? ⟨w.heap.size, 4, none⟩ = some (.string key) := HB.out.box.cell 4
      have z5 : w12.cell? ⟨w.heap.size, 5, none⟩ = some (.slice Ad ds.length cd) := HB.out.box.cell 5
      have z6 : w12.cell? ⟨w.heap.size, 6, none⟩ = some (.slice Ap ps.length cp) := HB.out.box.cell 6
      have z7 : w12.cell? ⟨w.heap.size, 7, none⟩ = some (.slice Ac cs.length cc) := HB.out.box.cell 7
      have z8 : w12.cell? ⟨w.heap.size, 8, none⟩ = some (.slice Ae es.length ce) := HB.out.box.cell 8
      have x0 : w12.cell? ⟨gz, 0, none⟩ = some (.int .i64 rz) := HZZ.out.box.cell 0
      have x1 : w12.cell? ⟨gz, 1, none⟩ = some (.int .i64 wtz) := HZZ.out.box.cell 1
      have x2 : w12.cell? ⟨gz, 2, none⟩ = some (.int .i64 bkz) := HZZ.out.box.cell 2
      have x3 : w12.cell? ⟨gz, 3, none⟩ = some (.int .i64 cyz) := HZZ.out.box.cell 3
      have x4 : w12.cell? ⟨gz, 4, none⟩ = some (.string keyz) := HZZ.out.box.cell 4
      have x5 : w12.cell? ⟨gz, 5, none⟩ = some (.slice Adz dsz.length cdz) := HZZ.out.box.cell 5
      have x6 : w12.cell? ⟨gz, 6, none⟩ = some (.slice Apz psz.length cpz) := HZZ.out.box.cell 6
      have x7 : w12.cell? ⟨gz, 7, none⟩ = some (.slice Acz csz.length ccz) := HZZ.out.box.cell 7
      have x8 : w12.cell? ⟨gz, 8, none⟩ = some (.slice Aez esz.length cez) := HZZ.out.box.cell 8
      go_wp2_with fail
      clear z0 z1 z2 z3 z4 z5 z6 z7 z8
      clear x0 x1 x2 x3 x4 x5 x6 x7 x8
      refine (sameM_any _ ⟨rz, wtz, bkz, cyz, keyz, dsz, psz, csz, esz⟩ ⟨r, wt, bk, cy, key, ds, ps, cs, es⟩ _ _ _ _ _ _ _ _ HZZ.out.mat HB.out.mat HZS.out (right_small HR.out)).mono ?_
      rintro e w13 ⟨b, rfl, hbr, hb⟩
      obtain rfl : b = true := hbr.2 (by rw [HZB.out])
      have HB := Lib.hid (HB.out.below hb)
      clear hb
      clear hbr
      go_wp2_with fail
      go_ret
      exact ⟨rfl, HB.out.old⟩
end Go.Proofs.YtckbdnkonccmiaaDoor
