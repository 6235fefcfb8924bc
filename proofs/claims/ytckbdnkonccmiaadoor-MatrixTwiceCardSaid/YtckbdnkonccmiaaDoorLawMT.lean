/-
  MatrixTwice, walked.
-/
import Derived.Test.YtckbdnkonccmiaaDoorLawKit
namespace Go.Proofs.YtckbdnkonccmiaaDoor
open Go.RowKit
set_option maxHeartbeats 8000000 in
set_option maxRecDepth 100000 in
theorem matrixTwice_any (w : World) (m : Mat) (vd vp vc ve : Value) (ha : MatAt w m vd vp vc ve) (hms : MatSmall m) (k : Nat) (hk : k < 256) (ht : Tab w) (h10 : Tab10 w) :
    Calls Tryd.prog 7 #[m.val vd vp vc ve, .int .u8 (k : Int)] w fun e w' => e = .returned (.bool true) ∧ Below w.heap.size w w' := by
  obtain ⟨r, wt, bk, cy, key, ds, ps, cs, es⟩ := m
  obtain ⟨Ad, cd, e, -, -⟩ := id ha.1
  simp only at e
  subst e
  obtain ⟨Ap, cp, e, -, -⟩ := id ha.2.1
  simp only at e
  subst e
  obtain ⟨Ac, cc, e, -, -⟩ := id ha.2.2.1.1
  simp only at e
  subst e
  obtain ⟨Ae, ce, e, -, -⟩ := id ha.2.2.2.1
  simp only at e
  subst e
  have HB := Lib.hid (⟨(Below.refl _ _).alloc (Nat.le_refl _) _, ha.below ((Below.refl _ _).alloc (Nat.le_refl _) _), Words.Blk.new w _ _, ht.below ((Below.refl _ _).alloc (Nat.le_refl _) _) (Nat.le_refl _), h10.below ((Below.refl _ _).alloc (Nat.le_refl _) _) (Nat.le_refl _)⟩ : HdIs w w.heap.size ⟨r, wt, bk, cy, key, ds, ps, cs, es⟩ (.slice Ad ds.length cd) (.slice Ap ps.length cp) (.slice Ac cs.length cc) (.slice Ae es.length ce) #[.int .i64 r, .int .i64 wt, .int .i64 bk, .int .i64 cy, .string key, .slice Ad ds.length cd, .slice Ap ps.length cp, .slice Ac cs.length cc, .slice Ae es.length ce] (w.alloc (.cells #[.int .i64 r, .int .i64 wt, .int .i64 bk, .int .i64 cy, .string key, .slice Ad ds.length cd, .slice Ap ps.length cp, .slice Ac cs.length cc, .slice Ae es.length ce] 27)))
  have HSM := Lib.hid hms
  obtain ⟨TX, hTX⟩ : ∃ TX, TX = textM ⟨r, wt, bk, cy, key, ds, ps, cs, es⟩ := ⟨_, rfl⟩
  have HTX := Lib.hid hTX
  clear ha hms ht h10 hTX
  unfold Mat.val
  simp only
  go_enter Tryd.func7, Tryd.ntmps7
  go_wp2_with fail
  refine (head_any _ HB.out.tab HB.out.tab10).mono ?_
  rintro e w1 ⟨rfl, hb⟩
  have HB := Lib.hid (HB.out.below hb)
  clear hb
  have z0 : w1.cell? ⟨w.heap.size, 0, none⟩ = some (.int .i64 r) := HB.out.box.cell 0
  have z1 : w1.cell? ⟨w.heap.size, 1, none⟩ = some (.int .i64 wt) := HB.out.box.cell 1
  have z2 : w1.cell? ⟨w.heap.size, 2, none⟩ = some (.int .i64 bk) := HB.out.box.cell 2
  have z3 : w1.cell? ⟨w.heap.size, 3, none⟩ = some (.int .i64 cy) := HB.out.box.cell 3
  have z4 : w1.cell? ⟨w.heap.size, 4, none⟩ = some (.string key) := HB.out.box.cell 4
  have z5 : w1.cell? ⟨w.heap.size, 5, none⟩ = some (.slice Ad ds.length cd) := HB.out.box.cell 5
  have z6 : w1.cell? ⟨w.heap.size, 6, none⟩ = some (.slice Ap ps.length cp) := HB.out.box.cell 6
  have z7 : w1.cell? ⟨w.heap.size, 7, none⟩ = some (.slice Ac cs.length cc) := HB.out.box.cell 7
  have z8 : w1.cell? ⟨w.heap.size, 8, none⟩ = some (.slice Ae es.length ce) := HB.out.box.cell 8
  go_wp2_with fail
  clear z0 z1 z2 z3 z4 z5 z6 z7 z8
  have hp := printM_any w1 ⟨r, wt, bk, cy, key, ds, ps, cs, es⟩ _ _ _ _ HB.out.mat HSM.out HB.out.tab10
  rw [← HTX.out] at hp
  refine hp.mono ?_
  rintro e w2 ⟨rfl, hb⟩
  have HB := Lib.hid (HB.out.below hb)
  clear hb
  clear hp
  have z0 : w2.cell? ⟨w.heap.size, 0, none⟩ = some (.int .i64 r) := HB.out.box.cell 0
  have z1 : w2.cell? ⟨w.heap.size, 1, none⟩ = some (.int .i64 wt) := HB.out.box.cell 1
  have z2 : w2.cell? ⟨w.heap.size, 2, none⟩ = some (.int .i64 bk) := HB.out.box.cell 2
  have z3 : w2.cell? ⟨w.heap.size, 3, none⟩ = some (.int .i64 cy) := HB.out.box.cell 3
  have z4 : w2.cell? ⟨w.heap.size, 4, none⟩ = some (.string key) := HB.out.box.cell 4
  have z5 : w2.cell? ⟨w.heap.size, 5, none⟩ = some (.slice Ad ds.length cd) := HB.out.box.cell 5
  have z6 : w2.cell? ⟨w.heap.size, 6, none⟩ = some (.slice Ap ps.length cp) := HB.out.box.cell 6
  have z7 : w2.cell? ⟨w.heap.size, 7, none⟩ = some (.slice Ac cs.length cc) := HB.out.box.cell 7
  have z8 : w2.cell? ⟨w.heap.size, 8, none⟩ = some (.slice Ae es.length ce) := HB.out.box.cell 8
  go_wp2_with fail
  clear z0 z1 z2 z3 z4 z5 z6 z7 z8
  refine (great_any _ ⟨r, wt, bk, cy, key, ds, ps, cs, es⟩ _ _ _ _ HB.out.mat HSM.out).mono ?_
  rintro e w3 ⟨⟨b, rfl⟩, hb⟩
  have HB := Lib.hid (HB.out.below hb)
  clear hb
  cases b with
  | true =>
    go_wp2_with fail
    go_ret
    exact ⟨rfl, HB.out.old⟩
  | false =>
    by_cases hr : RightP ⟨r, wt, bk, cy, key, ds, ps, cs, es⟩
    case neg =>
      have hns : TX.toList.isEmpty = true := by rw [HTX.out, textM_wrong hr]; exact none_text
      go_wp2_with fail
      go_ret
      exact ⟨rfl, HB.out.old⟩
    have HR := Lib.hid hr
    have hns : TX.toList.isEmpty = false := some_text (by rw [HTX.out]; exact textM_some hr)
    have HTE : Hid (TX = toB (printL (bytesL (linesOf ⟨r, wt, bk, cy, key, ds, ps, cs, es⟩)))) := Lib.hid (by rw [HTX.out, textM_right hr])
    clear hr
    by_cases hl : (3500 : Int) < (TX.size : Int)
    case pos =>
      go_wp2_with fail
      go_ret
      exact ⟨rfl, HB.out.old⟩
    have HSZ : Hid ((printL (bytesL (linesOf ⟨r, wt, bk, cy, key, ds, ps, cs, es⟩))).length ≤ 3500) := Lib.hid (by rw [← toB_size, ← HTE.out]; omega)
    go_wp2_with fail
    have hls := rlines_s w3 (lines_fine HR.out) (Nat.le_trans HSZ.out (by decide))
    rw [← HTE.out] at hls
    refine hls.mono ?_
    rintro e w4 ⟨xs, A, c, rfl, htold, hlat, hfew, hb⟩
    have HB := Lib.hid (HB.out.below hb)
    clear hb
    have HTO := Lib.hid (told_m htold hfew)
    have HLEN := Lib.hid (lines_len HR.out)
    have hn2 : 2 ≤ xs.length := by rw [HTO.out.len]; exact HLEN.out.2
    have hn38 : xs.length ≤ 38 := by rw [HTO.out.len]; exact HLEN.out.1
    obtain ⟨⟨lb, lo, hA⟩, hcap⟩ := ls_place hlat (by omega)
    subst hA
    have HLS := Lib.hid hlat
    clear htold hlat hfew hls
    obtain ⟨n, hn⟩ : ∃ n, n = xs.length := ⟨_, rfl⟩
    rw [← hn] at hn2 hn38 hcap HLS ⊢
    have HN := Lib.hid hn
    clear hn
    obtain ⟨K, hK⟩ : ∃ K, K = k % n := ⟨_, rfl⟩
    have hk0 : (0 : Int) ≤ (k : Int) := by omega
    have hrem : Int.tmod (k : Int) (n : Int) = (K : Int) := by rw [hK, Int.tmod_eq_emod_of_nonneg hk0]; omega
    have hKn : K < n := by rw [hK]; exact Nat.mod_lt _ (by omega)
    have HK := Lib.hid hKn
    have hn0 : ¬ (n : Int) = 0 := by omega
    have hK0 : (0 : Int) ≤ (K : Int) := by omega
    have hK1 : (K : Int) + 1 ≤ (c : Int) := by omega
    have hK2 : (K : Int) ≤ (K : Int) + 1 := by omega
    clear hK
    go_wp2_with fail
    have hsl := ls_sub (a := K) (k := 1) (by rw [← HN.out]; exact HLS.out) (by rw [← HN.out]; omega)
    obtain ⟨ws, hws, hws1⟩ := one_line_of (m := ⟨r, wt, bk, cy, key, ds, ps, cs, es⟩) (K := K) (by rw [← HTO.out.len, ← HN.out]; exact HK.out)
    have hbs := HTO.out.sub K 1
    rw [hws1] at hbs
    have hfw : FineLs [ws] := by rw [← hws1]; exact sub_fine HR.out K 1
    have hfs := fine_size hfw
    simp only [List.length_singleton] at hfs
    have hpr := rprint_any w4 ((xs.drop K).take 1) _ hsl (by simp; omega) (fun x hx => by have := HTO.out.few x (List.mem_of_mem_drop (List.mem_of_mem_take hx)); omega) (by rw [hbs]; omega)
    rw [hbs] at hpr
    obtain ⟨P, hP⟩ : ∃ P, P = toB (printL (bytesL [ws])) := ⟨_, rfl⟩
    rw [← hP] at hpr
    have hPs : P.size ≤ 239 := by rw [hP, toB_size]; omega
    have hTs : TX.size ≤ 3500 := by omega
    obtain ⟨kk, hkk⟩ : ∃ kk : Int, kk = if K < 2 then 81 else 82 := ⟨_, rfl⟩
    have HPO : Hid ((parseO (TX ++ P).data.toList).2 = (kk, (n : Int) + 1)) := Lib.hid (by
      have h1 := parse_twice HR.out hws HSZ.out
      rw [← hkk, ← HTO.out.len, ← HN.out] at h1
      rw [hP, HTE.out, toB_append, toB_list, ← printL_append, ← bytesL_append, h1])
    have HKK := Lib.hid hkk
    have HPS := Lib.hid (show (TX ++ P).size ≤ 1000000 by rw [concat_size]; omega)
    clear hsl hws hws1 hbs hfw hfs hP hkk
    refine hpr.mono ?_
    rintro e w5 ⟨rfl, rfl⟩
    clear hpr
    go_wp2_with fail
    refine (parse_code _ (TX ++ P) HPS.out HB.out.tab HPO.out).mono ?_
    rintro e wz ⟨⟨rz, wtz, bkz, cyz, keyz, dsz, psz, csz, esz⟩, Adz, Apz, Acz, Aez, cdz, cpz, ccz, cez, rfl, -, -, -, hb⟩
    unfold Mat.val
    simp only
    have HB := Lib.hid ((HB.out.below hb).alloc (.cells #[.int .i64 rz, .int .i64 wtz, .int .i64 bkz, .int .i64 cyz, .string keyz, .slice Adz dsz.length cdz, .slice Apz psz.length cpz, .slice Acz csz.length ccz, .slice Aez esz.length cez] 27))
    clear hb
    by_cases h2 : K < 2
    · have e : kk = 81 := by rw [HKK.out, if_pos h2]
      subst e
      have h3 : (K : Int) < 2 := by omega
      clear h2
      go_wp2_with fail
      go_ret
      exact ⟨rfl, HB.out.old⟩
    · have e : kk = 82 := by rw [HKK.out, if_neg h2]
      subst e
      have h3 : ¬ (K : Int) < 2 := by omega
      clear h2
      go_wp2_with fail
      go_ret
      exact ⟨rfl, HB.out.old⟩
end Go.Proofs.YtckbdnkonccmiaaDoor
