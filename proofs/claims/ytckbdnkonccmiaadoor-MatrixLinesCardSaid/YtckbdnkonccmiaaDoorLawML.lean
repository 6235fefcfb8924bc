/-
  MatrixLines, walked.
-/
import Derived.Test.YtckbdnkonccmiaaDoorLawKit
import Derived.Test.YtckbdnkonccmiaaDoorMatPl2
namespace Go.Proofs.YtckbdnkonccmiaaDoor
open Go.RowKit
set_option maxHeartbeats 8000000 in
set_option maxRecDepth 100000 in
theorem matrixLines_any (w : World) (m : Mat) (vd vp vc ve : Value) (ha : MatAt w m vd vp vc ve) (hms : MatSmall m) (k : Nat) (hk : k < 256) (ht : Tab w) (h10 : Tab10 w) :
    Calls Tryd.prog 4 #[m.val vd vp vc ve, .int .u8 (k : Int)] w fun e w' => e = .returned (.bool true) ∧ Below w.heap.size w w' := by
  obtain ⟨r, wt, bk, cy, key, ds, ps, cs, es⟩ := m
  obtain ⟨Ad, cd, e, -, -⟩ := id ha.1
  simp only at e
  subst e
  obtain ⟨Ap, cp, e, -, -⟩ := id ha.2.1
  simp only at e
  subst e
  obtain ⟨Ac, cc, e, -, -⟩ := id ha.2.2.1.1
  simp only at e
  subst e
  obtain ⟨Ae, ce, e, -, -⟩ := id ha.2.2.2.1
  simp only at e
  subst e
  have HB := Lib.hid (⟨(Below.refl _ _).alloc (Nat.le_refl _) _, ha.below ((Below.refl _ _).alloc (Nat.le_refl _) _), Words.Blk.new w _ _, ht.below ((Below.refl _ _).alloc (Nat.le_refl _) _) (Nat.le_refl _), h10.below ((Below.refl _ _).alloc (Nat.le_refl _) _) (Nat.le_refl _)⟩ : HdIs w w.heap.size ⟨r, wt, bk, cy, key, ds, ps, cs, es⟩ (.slice Ad ds.length cd) (.slice Ap ps.length cp) (.slice Ac cs.length cc) (.slice Ae es.length ce) #[.int .i64 r, .int .i64 wt, .int .i64 bk, .int .i64 cy, .string key, .slice Ad ds.length cd, .slice Ap ps.length cp, .slice Ac cs.length cc, .slice Ae es.length ce] (w.alloc (.cells #[.int .i64 r, .int .i64 wt, .int .i64 bk, .int .i64 cy, .string key, .slice Ad ds.length cd, .slice Ap ps.length cp, .slice Ac cs.length cc, .slice Ae es.length ce] 27)))
  have HSM := Lib.hid hms
  obtain ⟨TX, hTX⟩ : ∃ TX, TX = textM ⟨r, wt, bk, cy, key, ds, ps, cs, es⟩ := ⟨_, rfl⟩
  have HTX := Lib.hid hTX
  clear ha hms ht h10 hTX
  unfold Mat.val
  simp only
  go_enter Tryd.func4, Tryd.ntmps4
  go_wp2_with fail
  refine (head_any _ HB.out.tab HB.out.tab10).mono ?_
  rintro e w1 ⟨rfl, hb⟩
  have HB := Lib.hid (HB.out.below hb)
  clear hb
  have z0 : w1.cell? ⟨w.heap.size, 0, none⟩ = some (.int .i64 r) := HB.out.box.cell 0
  have z1 : w1.cell? ⟨w.heap.size, 1, none⟩ = some (.int .i64 wt) := HB.out.box.cell 1
  have z2 : w1.cell? ⟨w.heap.size, 2, none⟩ = some (.int .i64 bk) := HB.out.box.cell 2
  have z3 : w1.cell? ⟨w.heap.size, 3, none⟩ = some (.int .i64 cy) := HB.out.box.cell 3
  have z4 : w1.cell? ⟨w.heap.size, 4, none⟩ = some (.string key) := HB.out.box.cell 4
  have z5 : w1.cell? ⟨w.heap.size, 5, none⟩ = some (.slice Ad ds.length cd) := HB.out.box.cell 5
  have z6 : w1.cell? ⟨w.heap.size, 6, none⟩ = some (.slice Ap ps.length cp) := HB.out.box.cell 6
  have z7 : w1.cell? ⟨w.heap.size, 7, none⟩ = some (.slice Ac cs.length cc) := HB.out.box.cell 7
  have z8 : w1.cell? ⟨w.heap.size, 8, none⟩ = some (.slice Ae es.length ce) := HB.out.box.cell 8
  go_wp2_with fail
  clear z0 z1 z2 z3 z4 z5 z6 z7 z8
  have hp := printM_any w1 ⟨r, wt, bk, cy, key, ds, ps, cs, es⟩ _ _ _ _ HB.out.mat HSM.out HB.out.tab10
  rw [← HTX.out] at hp
  refine hp.mono ?_
  rintro e w2 ⟨rfl, hb⟩
  have HB := Lib.hid (HB.out.below hb)
  clear hb
  clear hp
  have z0 : w2.cell? ⟨w.heap.size, 0, none⟩ = some (.int .i64 r) := HB.out.box.cell 0
  have z1 : w2.cell? ⟨w.heap.size, 1, none⟩ = some (.int .i64 wt) := HB.out.box.cell 1
  have z2 : w2.cell? ⟨w.heap.size, 2, none⟩ = some (.int .i64 bk) := HB.out.box.cell 2
  have z3 : w2.cell? ⟨w.heap.size, 3, none⟩ = some (.int .i64 cy) := HB.out.box.cell 3
  have z4 : w2.cell? ⟨w.heap.size, 4, none⟩ = some (.string key) := HB.out.box.cell 4
  have z5 : w2.cell? ⟨w.heap.size, 5, none⟩ = some (.slice Ad ds.length cd) := HB.out.box.cell 5
  have z6 : w2.cell? ⟨w.heap.size, 6, none⟩ = some (.slice Ap ps.length cp) := HB.out.box.cell 6
  have z7 : w2.cell? ⟨w.heap.size, 7, none⟩ = some (.slice Ac cs.length cc) := HB.out.box.cell 7
  have z8 : w2.cell? ⟨w.heap.size, 8, none⟩ = some (.slice Ae es.length ce) := HB.out.box.cell 8
  go_wp2_with fail
  clear z0 z1 z2 z3 z4 z5 z6 z7 z8
  refine (great_any _ ⟨r, wt, bk, cy, key, ds, ps, cs, es⟩ _ _ _ _ HB.out.mat HSM.out).mono ?_
  rintro e w3 ⟨⟨b, rfl⟩, hb⟩
  have HB := Lib.hid (HB.out.below hb)
  clear hb
  cases b with
  | true =>
    go_wp2_with fail
    go_ret
    exact ⟨rfl, HB.out.old⟩
  | false =>
    by_cases hr : RightP ⟨r, wt, bk, cy, key, ds, ps, cs, es⟩
    case neg =>
      have hns : TX.toList.isEmpty = true := by rw [HTX.out, textM_wrong hr]; exact none_text
      go_wp2_with fail
      go_ret
      exact ⟨rfl, HB.out.old⟩
    have HR := Lib.hid hr
    have hns : TX.toList.isEmpty = false := some_text (by rw [HTX.out]; exact textM_some hr)
    have HTE : Hid (TX = toB (printL (bytesL (linesOf ⟨r, wt, bk, cy, key, ds, ps, cs, es⟩)))) := Lib.hid (by rw [HTX.out, textM_right hr])
    clear hr
    by_cases hl : (3000 : Int) < (TX.size : Int)
    case pos =>
      go_wp2_with fail
      go_ret
      exact ⟨rfl, HB.out.old⟩
    have HSZ : Hid ((printL (bytesL (linesOf ⟨r, wt, bk, cy, key, ds, ps, cs, es⟩))).length ≤ 3000) := Lib.hid (by rw [← toB_size, ← HTE.out]; omega)
    go_wp2_with fail
    have hls := rlines_s w3 (lines_fine HR.out) (Nat.le_trans HSZ.out (by decide))
    rw [← HTE.out] at hls
    refine hls.mono ?_
    rintro e w4 ⟨xs, A, c, rfl, htold, hlat, hfew, hb⟩
    have HB := Lib.hid (HB.out.below hb)
    clear hb
    have HTO := Lib.hid (told_m htold hfew)
    have HLEN := Lib.hid (lines_len HR.out)
    have hn2 : 2 ≤ xs.length := by rw [HTO.out.len]; exact HLEN.out.2
    have hn38 : xs.length ≤ 38 := by rw [HTO.out.len]; exact HLEN.out.1
    obtain ⟨⟨lb, lo, hA⟩, hcap⟩ := ls_place hlat (by omega)
    subst hA
    have HLS := Lib.hid hlat
    clear htold hlat hfew hls
    obtain ⟨n, hn⟩ : ∃ n, n = xs.length := ⟨_, rfl⟩
    rw [← hn] at hn2 hn38 hcap HLS ⊢
    have HN := Lib.hid hn
    clear hn
    have hls3 := HSZ.out
    have HRT : Hid (∀ j ws, (linesOf ⟨r, wt, bk, cy, key, ds, ps, cs, es⟩)[j]? = some ws → (remarked ((bytesL (linesOf ⟨r, wt, bk, cy, key, ds, ps, cs, es⟩)).take (j + 1))) = remarked ((bytesL (linesOf ⟨r, wt, bk, cy, key, ds, ps, cs, es⟩)).take j) ++ ([10, 32] ++ printL (bytesL [ws]) ++ [35] ++ printL (bytesL [ws]))) := Lib.hid (fun j ws h => remarked_next h)
    have HRL : Hid (∀ j, (remarked ((bytesL (linesOf ⟨r, wt, bk, cy, key, ds, ps, cs, es⟩)).take j)).length ≤ 6200) := Lib.hid (fun j => by have h1 := remarked_len (bytesL (linesOf ⟨r, wt, bk, cy, key, ds, ps, cs, es⟩)) j; have h2 := HLEN.out.1; rw [bytesL_len] at h1; omega)
    have HQ0 := Lib.hid (Below.refl w4.heap.size w4)
    have hcn : n ≤ c := hcap
    clear hls3 hcap
    go_wp2_with fail
    go_loopw [10, 11] (fun s i wr => ∃ j : Nat, j ≤ n ∧ i = .int .i64 j ∧ s = .string (toB (remarked ((bytesL (linesOf ⟨r, wt, bk, cy, key, ds, ps, cs, es⟩)).take j))) ∧ Hid (Below w4.heap.size w4 wr)) (fun _ i _ => n - (intOf i).toNat)
    case atStart => exact ⟨0, Nat.zero_le _, rfl, rfl, HQ0⟩
    case round =>
      clear HQ0
      obtain ⟨j, hj, rfl, rfl, HW⟩ := hrel
      by_cases hlt : j < n
      · have hj1 : (j : Int) < (n : Int) := by omega
        have hj0 : (0 : Int) ≤ (j : Int) := by omega
        have hj2 : (j : Int) + 1 ≤ (c : Int) := by omega
        have hj3 : (j : Int) ≤ (j : Int) + 1 := by omega
        have hw : IntKind.i64.wrap ((j : Int) + 1) = (j : Int) + 1 := IntWalk.i64_in _ (by omega)
        have hcj : ¬ c = j := by omega
        obtain ⟨ws, hws, hws1⟩ := one_line_of (m := ⟨r, wt, bk, cy, key, ds, ps, cs, es⟩) (K := j) (by rw [← HTO.out.len, ← HN.out]; exact hlt)
        have hbs := HTO.out.sub j 1
        rw [hws1] at hbs
        have hfw : FineLs [ws] := by rw [← hws1]; exact sub_fine HR.out j 1
        have hfs := fine_size hfw
        simp only [List.length_singleton] at hfs
        obtain ⟨P, hP⟩ : ∃ P, P = toB (printL (bytesL [ws])) := ⟨_, rfl⟩
        obtain ⟨S, hS⟩ : ∃ S, S = toB (remarked ((bytesL (linesOf ⟨r, wt, bk, cy, key, ds, ps, cs, es⟩)).take j)) := ⟨_, rfl⟩
        have hPs : P.size ≤ 239 := by rw [hP, toB_size]; omega
        have hSs : S.size ≤ 6200 := by rw [hS, toB_size]; exact HRL.out j
        have HNX : Hid (S ++ ⟨#[10, 32]⟩ ++ P ++ ⟨#[35]⟩ ++ P = toB (remarked ((bytesL (linesOf ⟨r, wt, bk, cy, key, ds, ps, cs, es⟩)).take (j + 1)))) := Lib.hid (by
          rw [HRT.out j ws hws, hS, hP]
          show toB _ ++ toB [10, 32] ++ toB _ ++ toB [35] ++ toB _ = _
          simp only [toB_append, List.append_assoc])
        have HC := Lib.hid (fun (W : World) (hb : Below w4.heap.size w4 W) => still_print (w := W) (xs := (xs.drop j).take 1) (v := .slice (some ⟨lb, lo + j * 2, none⟩) 1 (c - j)) (ls := [ws]) (P := P) hbs hP (by simp; omega) (fun x hx => by have := HTO.out.few x (List.mem_of_mem_drop (List.mem_of_mem_take hx)); omega) (by omega) (ls_sub (a := j) (k := 1) (by have h := HLS.out.below hb; rw [HN.out] at h; exact h) (by rw [← HN.out]; omega)))
        rw [← hS]
        clear hws hws1 hbs hfw hfs hP hS
        have HC2 := Lib.hid (fun nq : Nat => ((HC.out (wr.drewN nq) (below_drewn HW.out nq)).mono (fun e w' h => ⟨h.1, nq, h.2⟩) : Calls _ _ _ _ (fun e w' => e = .returned (.string P) ∧ ∃ n, w' = wr.drewN n)))
        have hp1 : ¬ 9223372036854775807 < S.size + 2 := by omega
        have e2 : (⟨#[10, 32]⟩ : ByteArray).size = 2 := rfl
        have e1 : (⟨#[35]⟩ : ByteArray).size = 1 := rfl
        clear HC
        go_upto_region 10 with fail
        go_quiet ((go_at_call 15; exact HC2.out _))
        go_wp2_with fail
        go_roundw
        case rel => exact ⟨j + 1, by omega, by go_num, by rw [← HNX.out], Lib.hid (below_drewn HW.out nq)⟩
        case measure => simp [intOf]; omega
      · obtain rfl : j = n := by omega
        have hj2 : ¬ (j : Int) < (j : Int) := by omega
        have hte : (bytesL (linesOf ⟨r, wt, bk, cy, key, ds, ps, cs, es⟩)).take j = bytesL (linesOf ⟨r, wt, bk, cy, key, ds, ps, cs, es⟩) := List.take_of_length_le (by rw [bytesL_len, ← HTO.out.len, ← HN.out]; exact Nat.le_refl _)
        rw [hte]
        obtain ⟨T, hT⟩ : ∃ T, T = toB (remarked (bytesL (linesOf ⟨r, wt, bk, cy, key, ds, ps, cs, es⟩))) := ⟨_, rfl⟩
        have hTs : T.size ≤ 6200 := by rw [hT, toB_size, ← hte]; exact HRL.out j
        have HTT := Lib.hid (show T.data.toList = remarked (bytesL (linesOf ⟨r, wt, bk, cy, key, ds, ps, cs, es⟩)) by rw [hT, toB_list])
        have HB := Lib.hid (HB.out.below HW.out)
        have HLS := Lib.hid (HLS.out.below HW.out)
        rw [← hT]
        clear hlt hj hte hT HW
        go_wp2_with fail
        by_cases hlong : (4096 : Int) < (T.size : Int)
        case pos =>
          have HPO : Hid (parseO T.data.toList = (zeroMat, 2, 0)) := Lib.hid (by rw [HTT.out]; exact parse_long (by rw [← HTT.out]; have hzz : T.data.toList.length = T.size := (by simp); omega))
          refine (parse_code _ T (by omega) HB.out.tab (k := 2) (no := 0) (by rw [HPO.out])).mono ?_
          rintro e wx ⟨⟨rx, wtx, bkx, cyx, keyx, dsx, psx, csx, esx⟩, Adx, Apx, Acx, Aex, cdx, cpx, ccx, cex, rfl, hbx, hmx, hsx, hb⟩
          rw [HPO.out] at hbx
          have HXS := Lib.hid hsx
          have HXB := Lib.hid hbx
          unfold Mat.val
          simp only
          have HB := Lib.hid ((HB.out.below hb).alloc (.cells #[.int .i64 rx, .int .i64 wtx, .int .i64 bkx, .int .i64 cyx, .string keyx, .slice Adx dsx.length cdx, .slice Apx psx.length cpx, .slice Acx csx.length ccx, .slice Aex esx.length cex] 27))
          have HLS := Lib.hid ((HLS.out.below hb).below ((Below.refl _ _).alloc (Nat.le_refl _) (.cells #[.int .i64 rx, .int .i64 wtx, .int .i64 bkx, .int .i64 cyx, .string keyx, .slice Adx dsx.length cdx, .slice Apx psx.length cpx, .slice Acx csx.length ccx, .slice Aex esx.length cex] 27)))
          have HXX := Lib.hid (⟨(Below.refl _ _).alloc (Nat.le_refl _) _, hmx.below ((Below.refl _ _).alloc (Nat.le_refl _) _), Words.Blk.new wx _ _, HB.out.tab, HB.out.tab10⟩ : HdIs wx wx.heap.size ⟨rx, wtx, bkx, cyx, keyx, dsx, psx, csx, esx⟩ (.slice Adx dsx.length cdx) (.slice Apx psx.length cpx) (.slice Acx csx.length ccx) (.slice Aex esx.length cex) #[.int .i64 rx, .int .i64 wtx, .int .i64 bkx, .int .i64 cyx, .string keyx, .slice Adx dsx.length cdx, .slice Apx psx.length cpx, .slice Acx csx.length ccx, .slice Aex esx.length cex] (wx.alloc (.cells #[.int .i64 rx, .int .i64 wtx, .int .i64 bkx, .int .i64 cyx, .string keyx, .slice Adx dsx.length cdx, .slice Apx psx.length cpx, .slice Acx csx.length ccx, .slice Aex esx.length cex] 27)))
          clear hbx hmx hsx hb HPO
          clear HXX HXS HXB
          obtain ⟨K, hK⟩ : ∃ K, K = k % j := ⟨_, rfl⟩
          have hk0 : (0 : Int) ≤ (k : Int) := by omega
          have hrem : Int.tmod (k : Int) (j : Int) = (K : Int) := by rw [hK, Int.tmod_eq_emod_of_nonneg hk0]; omega
          have hKn : K < j := by rw [hK]; exact Nat.mod_lt _ (by omega)
          have hn0 : ¬ (j : Int) = 0 := by omega
          have hK0 : (0 : Int) ≤ (K : Int) := by omega
          have hK1 : (K : Int) ≤ (c : Int) := by omega
          have hsl := ls_sub (a := 0) (k := K) (by have h := HLS.out; rw [HN.out] at h; exact h) (by rw [← HN.out]; omega)
          simp only [Nat.zero_mul, Nat.add_zero, Nat.sub_zero, List.drop_zero] at hsl
          have hbs := HTO.out.sub 0 K
          simp only [List.drop_zero] at hbs
          have hfw : FineLs ((linesOf ⟨r, wt, bk, cy, key, ds, ps, cs, es⟩).take K) := (lines_fine HR.out).sub (fun x hx => List.mem_of_mem_take hx)
          have hszK : (printL (bytesL ((linesOf ⟨r, wt, bk, cy, key, ds, ps, cs, es⟩).take K))).length ≤ 3000 := by
            have h1 := HSZ.out
            have h := congrArg (fun l => (printL (bytesL l)).length) (List.take_append_drop K (linesOf ⟨r, wt, bk, cy, key, ds, ps, cs, es⟩))
            simp only [bytesL_append, printL_append, List.length_append] at h
            omega
          have hpc := parse_firsts HR.out K (by omega)
          have HPR := Lib.hid (fun W h => still_print (w := W) (xs := xs.take K) (v := .slice (some ⟨lb, lo, none⟩) K c) (ls := (linesOf ⟨r, wt, bk, cy, key, ds, ps, cs, es⟩).take K) (P := toB (printL (bytesL ((linesOf ⟨r, wt, bk, cy, key, ds, ps, cs, es⟩).take K)))) hbs rfl (by simp; omega) (fun x hx => by have := HTO.out.few x (List.mem_of_mem_take hx); omega) (by omega) h)
          obtain ⟨P, hP⟩ : ∃ P, P = toB (printL (bytesL ((linesOf ⟨r, wt, bk, cy, key, ds, ps, cs, es⟩).take K))) := ⟨_, rfl⟩
          rw [← hP] at HPR
          have hPs : P.size ≤ 3000 := by rw [hP, toB_size]; exact hszK
          have HPC : Hid ((parseO P.data.toList).2 = if K < 2 then (81, 0) else (0, 0)) := Lib.hid (by rw [hP, toB_list]; exact hpc)
          have HSL := Lib.hid hsl
          clear hK hsl hbs hfw hszK hpc hP
          go_wp2_with fail
          refine (HPR.out _ (by exact HSL.out)).mono ?_
          rintro e wp ⟨rfl, rfl⟩
          go_wp2_with fail
          by_cases h2 : K < 2
          · have h3 : (K : Int) < 2 := by omega
            refine (parse_code _ P (by omega) HB.out.tab (k := 81) (no := 0) (by rw [HPC.out, if_pos h2])).mono ?_
            rintro e wz ⟨⟨rz, wtz, bkz, cyz, keyz, dsz, psz, csz, esz⟩, Adz, Apz, Acz, Aez, cdz, cpz, ccz, cez, rfl, -, -, -, hb⟩
            unfold Mat.val
            simp only
            have HB := Lib.hid ((HB.out.below hb).alloc (.cells #[.int .i64 rz, .int .i64 wtz, .int .i64 bkz, .int .i64 cyz, .string keyz, .slice Adz dsz.length cdz, .slice Apz psz.length cpz, .slice Acz csz.length ccz, .slice Aez esz.length cez] 27))
            clear hb h2
            go_wp2_with fail
            go_ret
            exact ⟨rfl, HB.out.old⟩
          · have h3 : ¬ (K : Int) < 2 := by omega
            refine (parse_code _ P (by omega) HB.out.tab (k := 0) (no := 0) (by rw [HPC.out, if_neg h2])).mono ?_
            rintro e wz ⟨⟨rz, wtz, bkz, cyz, keyz, dsz, psz, csz, esz⟩, Adz, Apz, Acz, Aez, cdz, cpz, ccz, cez, rfl, -, -, -, hb⟩
            unfold Mat.val
            simp only
            have HB := Lib.hid ((HB.out.below hb).alloc (.cells #[.int .i64 rz, .int .i64 wtz, .int .i64 bkz, .int .i64 cyz, .string keyz, .slice Adz dsz.length cdz, .slice Apz psz.length cpz, .slice Acz csz.length ccz, .slice Aez esz.length cez] 27))
            clear hb h2
            go_wp2_with fail
            go_ret
            exact ⟨rfl, HB.out.old⟩
        case neg =>
          have HPO : Hid (parseO T.data.toList = ((⟨r, wt, bk, cy, key, ds, ps, cs, es⟩ : Mat).bare, 0, 0)) := Lib.hid (by rw [HTT.out]; exact parse_remarked HR.out (by rw [← HTT.out]; have hzz : T.data.toList.length = T.size := (by simp); omega))
          refine (parse_code _ T (by omega) HB.out.tab (k := 0) (no := 0) (by rw [HPO.out])).mono ?_
          rintro e wx ⟨⟨rx, wtx, bkx, cyx, keyx, dsx, psx, csx, esx⟩, Adx, Apx, Acx, Aex, cdx, cpx, ccx, cex, rfl, hbx, hmx, hsx, hb⟩
          rw [HPO.out] at hbx
          have HXS := Lib.hid hsx
          have HXB := Lib.hid hbx
          unfold Mat.val
          simp only
          have HB := Lib.hid ((HB.out.below hb).alloc (.cells #[.int .i64 rx, .int .i64 wtx, .int .i64 bkx, .int .i64 cyx, .string keyx, .slice Adx dsx.length cdx, .slice Apx psx.length cpx, .slice Acx csx.length ccx, .slice Aex esx.length cex] 27))
          have HLS := Lib.hid ((HLS.out.below hb).below ((Below.refl _ _).alloc (Nat.le_refl _) (.cells #[.int .i64 rx, .int .i64 wtx, .int .i64 bkx, .int .i64 cyx, .string keyx, .slice Adx dsx.length cdx, .slice Apx psx.length cpx, .slice Acx csx.length ccx, .slice Aex esx.length cex] 27)))
          have HXX := Lib.hid (⟨(Below.refl _ _).alloc (Nat.le_refl _) _, hmx.below ((Below.refl _ _).alloc (Nat.le_refl _) _), Words.Blk.new wx _ _, HB.out.tab, HB.out.tab10⟩ : HdIs wx wx.heap.size ⟨rx, wtx, bkx, cyx, keyx, dsx, psx, csx, esx⟩ (.slice Adx dsx.length cdx) (.slice Apx psx.length cpx) (.slice Acx csx.length ccx) (.slice Aex esx.length cex) #[.int .i64 rx, .int .i64 wtx, .int .i64 bkx, .int .i64 cyx, .string keyx, .slice Adx dsx.length cdx, .slice Apx psx.length cpx, .slice Acx csx.length ccx, .slice Aex esx.length cex] (wx.alloc (.cells #[.int .i64 rx, .int .i64 wtx, .int .i64 bkx, .int .i64 cyx, .string keyx, .slice Adx dsx.length cdx, .slice Apx psx.length cpx, .slice Acx csx.length ccx, .slice Aex esx.length cex] 27)))
          clear hbx hmx hsx hb HPO
          have z0 : (wx.alloc (.cells #[.int .i64 rx, .int .i64 wtx, .int .i64 bkx, .int .i64 cyx, .string keyx, .slice Adx dsx.length cdx, .slice Apx psx.length cpx, .slice Acx csx.length ccx, .slice Aex esx.length cex] 27)).cell? ⟨w.heap.size, 0, none⟩ = some (.int .i64 r) := HB.out.box.cell 0
          have z1 : (wx.alloc (.cells #[.int .i64 rx, .int .i64 wtx, .int .i64 bkx, .int .i64 cyx, .string keyx, .slice Adx dsx.length cdx, .slice Apx psx.length cpx, .slice Acx csx.length ccx, .slice Aex esx.length cex] 27)).cell? ⟨w.heap.size, 1, none⟩ = some (.int .i64 wt) := HB.out.box.cell 1
          have z2 : (wx.alloc (.cells #[.int .i64 rx, .int .i64 wtx, .int .i64 bkx, .int .i64 cyx, .string keyx, .slice Adx dsx.length cdx, .slice Apx psx.length cpx, .slice Acx csx.length ccx, .slice Aex esx.length cex] 27)).cell? ⟨w.heap.size, 2, none⟩ = some (.int .i64 bk) := HB.out.box.cell 2
          have z3 : (wx.alloc (.cells #[.int .i64 rx, .int .i64 wtx, .int .i64 bkx, .int .i64 cyx, .string keyx, .slice Adx dsx.length cdx, .slice Apx psx.length cpx, .slice Acx csx.length ccx, .slice Aex esx.length cex] 27)).cell? ⟨w.heap.size, 3, none⟩ = some (.int .i64 cy) := HB.out.box.cell 3
          have z4 : (wx.alloc (.cells #[.int .i64 rx, .int .i64 wtx, .int .i64 bkx, .int .i64 cyx, .string keyx, .slice Adx dsx.length cdx, .slice Apx psx.length cpx, .slice Acx csx.length ccx, .slice Aex esx.length cex] 27)).cell? ⟨w.heap.size, 4, none⟩ = some (.string key) := HB.out.box.cell 4
          have z5 : (wx.alloc (.cells #[.int .i64 rx, .int .i64 wtx, .int .i64 bkx, .int .i64 cyx, .string keyx, .slice Adx dsx.length cdx, .slice Apx psx.length cpx, .slice Acx csx.length ccx, .slice Aex esx.length cex] 27)).cell? ⟨w.heap.size, 5, none⟩ = some (.slice Ad ds.length cd) := HB.out.box.cell 5
          have z6 : (wx.alloc (.cells #[.int .i64 rx, .int .i64 wtx, .int .i64 bkx, .int .i64 cyx, .string keyx, .slice Adx dsx.length cdx, .slice Apx psx.length cpx, .slice Acx csx.length ccx, .slice Aex esx.length cex] 27)).cell? ⟨w.heap.size, 6, none⟩ = some (.slice Ap ps.length cp) := HB.out.box.cell 6
          have z7 : (wx.alloc (.cells #[.int .i64 rx, .int .i64 wtx, .int .i64 bkx, .int .i64 cyx, .string keyx, .slice Adx dsx.length cdx, .slice Apx psx.length cpx, .slice Acx csx.length ccx, .slice Aex esx.length cex] 27)).cell? ⟨w.heap.size, 7, none⟩ = some (.slice Ac cs.length cc) := HB.out.box.cell 7
          have z8 : (wx.alloc (.cells #[.int .i64 rx, .int .i64 wtx, .int .i64 bkx, .int .i64 cyx, .string keyx, .slice Adx dsx.length cdx, .slice Apx psx.length cpx, .slice Acx csx.length ccx, .slice Aex esx.length cex] 27)).cell? ⟨w.heap.size, 8, none⟩ = some (.slice Ae es.length ce) := HB.out.box.cell 8
          have x0 : (wx.alloc (.cells #[.int .i64 rx, .int .i64 wtx, .int .i64 bkx, .int .i64 cyx, .string keyx, .slice Adx dsx.length cdx, .slice Apx psx.length cpx, .slice Acx csx.length ccx, .slice Aex esx.length cex] 27)).cell? ⟨wx.heap.size, 0, none⟩ = some (.int .i64 rx) := HXX.out.box.cell 0
          have x1 : (wx.alloc (.cells #[.int .i64 rx, .int .i64 wtx, .int .i64 bkx, .int .i64 cyx, .string keyx, .slice Adx dsx.length cdx, .slice Apx psx.length cpx, .slice Acx csx.length ccx, .slice Aex esx.length cex] 27)).cell? ⟨wx.heap.size, 1, none⟩ = some (.int .i64 wtx) := HXX.out.box.cell 1
          have x2 : (wx.alloc (.cells #[.int .i64 rx, .int .i64 wtx, .int .i64 bkx, .int .i64 cyx, .string keyx, .slice Adx dsx.length cdx, .slice Apx psx.length cpx, .slice Acx csx.length ccx, .slice Aex esx.length cex] 27)).cell? ⟨wx.heap.size, 2, none⟩ = some (.int .i64 bkx) := HXX.out.box.cell 2
          have x3 : (wx.alloc (.cells #[.int .i64 rx, .int .i64 wtx, .int .i64 bkx, .int .i64 cyx, .string keyx, .slice Adx dsx.length cdx, .slice Apx psx.length cpx, .slice Acx csx.length ccx, .slice Aex esx.length cex] 27)).cell? ⟨wx.heap.size, 3, none⟩ = some (.int .i64 cyx) := HXX.out.box.cell 3
          have x4 : (wx.alloc (.cells #[.int .i64 rx, .int .i64 wtx, .int .i64 bkx, .int .i64 cyx, .string keyx, .slice Adx dsx.length cdx, .slice Apx psx.length cpx, .slice Acx csx.length ccx, .slice Aex esx.length cex] 27)).cell? ⟨wx.heap.size, 4, none⟩ = some (.string keyx) := HXX.out.box.cell 4
          have x5 : (wx.alloc (.cells #[.int .i64 rx, .int .i64 wtx, .int .i64 bkx, .int .i64 cyx, .string keyx, .slice Adx dsx.length cdx, .slice Apx psx.length cpx, .slice Acx csx.length ccx, .slice Aex esx.length cex] 27)).cell? ⟨wx.heap.size, 5, none⟩ = some (.slice Adx dsx.length cdx) := HXX.out.box.cell 5
          have x6 : (wx.alloc (.cells #[.int .i64 rx, .int .i64 wtx, .int .i64 bkx, .int .i64 cyx, .string keyx, .slice Adx dsx.length cdx, .slice Apx psx.length cpx, .slice Acx csx.length ccx, .slice Aex esx.length cex] 27)).cell? ⟨wx.heap.size, 6, none⟩ = some (.slice Apx psx.length cpx) := HXX.out.box.cell 6
          have x7 : (wx.alloc (.cells #[.int .i64 rx, .int .i64 wtx, .int .i64 bkx, .int .i64 cyx, .string keyx, .slice Adx dsx.length cdx, .slice Apx psx.length cpx, .slice Acx csx.length ccx, .slice Aex esx.length cex] 27)).cell? ⟨wx.heap.size, 7, none⟩ = some (.slice Acx csx.length ccx) := HXX.out.box.cell 7
          have x8 : (wx.alloc (.cells #[.int .i64 rx, .int .i64 wtx, .int .i64 bkx, .int .i64 cyx, .string keyx, .slice Adx dsx.length cdx, .slice Apx psx.length cpx, .slice Acx csx.length ccx, .slice Aex esx.length cex] 27)).cell? ⟨wx.heap.size, 8, none⟩ = some (.slice Aex esx.length cex) := HXX.out.box.cell 8
          go_wp2_with fail
          clear z0 z1 z2 z3 z4 z5 z6 z7 z8
          clear x0 x1 x2 x3 x4 x5 x6 x7 x8
          refine (sameM_any _ ⟨rx, wtx, bkx, cyx, keyx, dsx, psx, csx, esx⟩ ⟨r, wt, bk, cy, key, ds, ps, cs, es⟩ _ _ _ _ _ _ _ _ HXX.out.mat HB.out.mat HXS.out (right_small HR.out)).mono ?_
          rintro e w6 ⟨b, rfl, hbr, hb⟩
          obtain rfl : b = true := hbr.2 (by rw [HXB.out])
          have HLS := Lib.hid (HLS.out.below hb)
          have HB := Lib.hid (HB.out.below hb)
          clear hb
          clear hbr HXX HXS HXB
          obtain ⟨K, hK⟩ : ∃ K, K = k % j := ⟨_, rfl⟩
          have hk0 : (0 : Int) ≤ (k : Int) := by omega
          have hrem : Int.tmod (k : Int) (j : Int) = (K : Int) := by rw [hK, Int.tmod_eq_emod_of_nonneg hk0]; omega
          have hKn : K < j := by rw [hK]; exact Nat.mod_lt _ (by omega)
          have hn0 : ¬ (j : Int) = 0 := by omega
          have hK0 : (0 : Int) ≤ (K : Int) := by omega
          have hK1 : (K : Int) ≤ (c : Int) := by omega
          have hsl := ls_sub (a := 0) (k := K) (by have h := HLS.out; rw [HN.out] at h; exact h) (by rw [← HN.out]; omega)
          simp only [Nat.zero_mul, Nat.add_zero, Nat.sub_zero, List.drop_zero] at hsl
          have hbs := HTO.out.sub 0 K
          simp only [List.drop_zero] at hbs
          have hfw : FineLs ((linesOf ⟨r, wt, bk, cy, key, ds, ps, cs, es⟩).take K) := (lines_fine HR.out).sub (fun x hx => List.mem_of_mem_take hx)
          have hszK : (printL (bytesL ((linesOf ⟨r, wt, bk, cy, key, ds, ps, cs, es⟩).take K))).length ≤ 3000 := by
            have h1 := HSZ.out
            have h := congrArg (fun l => (printL (bytesL l)).length) (List.take_append_drop K (linesOf ⟨r, wt, bk, cy, key, ds, ps, cs, es⟩))
            simp only [bytesL_append, printL_append, List.length_append] at h
            omega
          have hpc := parse_firsts HR.out K (by omega)
          have HPR := Lib.hid (fun W h => still_print (w := W) (xs := xs.take K) (v := .slice (some ⟨lb, lo, none⟩) K c) (ls := (linesOf ⟨r, wt, bk, cy, key, ds, ps, cs, es⟩).take K) (P := toB (printL (bytesL ((linesOf ⟨r, wt, bk, cy, key, ds, ps, cs, es⟩).take K)))) hbs rfl (by simp; omega) (fun x hx => by have := HTO.out.few x (List.mem_of_mem_take hx); omega) (by omega) h)
          obtain ⟨P, hP⟩ : ∃ P, P = toB (printL (bytesL ((linesOf ⟨r, wt, bk, cy, key, ds, ps, cs, es⟩).take K))) := ⟨_, rfl⟩
          rw [← hP] at HPR
          have hPs : P.size ≤ 3000 := by rw [hP, toB_size]; exact hszK
          have HPC : Hid ((parseO P.data.toList).2 = if K < 2 then (81, 0) else (0, 0)) := Lib.hid (by rw [hP, toB_list]; exact hpc)
          have HSL := Lib.hid hsl
          clear hK hsl hbs hfw hszK hpc hP
          go_wp2_with fail
          refine (HPR.out _ (by exact HSL.out)).mono ?_
          rintro e wp ⟨rfl, rfl⟩
          go_wp2_with fail
          by_cases h2 : K < 2
          · have h3 : (K : Int) < 2 := by omega
            refine (parse_code _ P (by omega) HB.out.tab (k := 81) (no := 0) (by rw [HPC.out, if_pos h2])).mono ?_
            rintro e wz ⟨⟨rz, wtz, bkz, cyz, keyz, dsz, psz, csz, esz⟩, Adz, Apz, Acz, Aez, cdz, cpz, ccz, cez, rfl, -, -, -, hb⟩
            unfold Mat.val
            simp only
            have HB := Lib.hid ((HB.out.below hb).alloc (.cells #[.int .i64 rz, .int .i64 wtz, .int .i64 bkz, .int .i64 cyz, .string keyz, .slice Adz dsz.length cdz, .slice Apz psz.length cpz, .slice Acz csz.length ccz, .slice Aez esz.length cez] 27))
            clear hb h2
            go_wp2_with fail
            go_ret
            exact ⟨rfl, HB.out.old⟩
          · have h3 : ¬ (K : Int) < 2 := by omega
            refine (parse_code _ P (by omega) HB.out.tab (k := 0) (no := 0) (by rw [HPC.out, if_neg h2])).mono ?_
            rintro e wz ⟨⟨rz, wtz, bkz, cyz, keyz, dsz, psz, csz, esz⟩, Adz, Apz, Acz, Aez, cdz, cpz, ccz, cez, rfl, -, -, -, hb⟩
            unfold Mat.val
            simp only
            have HB := Lib.hid ((HB.out.below hb).alloc (.cells #[.int .i64 rz, .int .i64 wtz, .int .i64 bkz, .int .i64 cyz, .string keyz, .slice Adz dsz.length cdz, .slice Apz psz.length cpz, .slice Acz csz.length ccz, .slice Aez esz.length cez] 27))
            clear hb h2
            go_wp2_with fail
            go_ret
            exact ⟨rfl, HB.out.old⟩
end Go.Proofs.YtckbdnkonccmiaaDoor
