/-
  THE LAW LexJoin, walked.
-/
import Derived.Test.YtpoihpehdlogbaaDoorLexJoinPlain
namespace Go.Proofs.YtpoihpehdlogbaaDoor
open Go.RowKit
theorem concat_list (s t : ByteArray) : (s ++ t).data.toList = s.data.toList ++ t.data.toList := by
  rw [ByteArray.data_append, Array.toList_append]
theorem concat_size (s t : ByteArray) : (s ++ t).size = s.size + t.size := ByteArray.size_append
theorem lines_own (w : World) (s : ByteArray) (hs : s.size ≤ 1000000) (ht : Tab w) (he : textE s.data.toList = none) : Calls Tryd.prog 11 #[.string s] w fun e w' => ∃ A n c, e = .returned (.tuple #[.slice A n c, .int .i64 0, .int .i64 0]) ∧ LnsAt w' w.heap.size (toldL (textL s.data.toList)) n (.slice A n c) ∧ Below w.heap.size w w' := by
  refine (lines_s w s hs ht).mono ?_
  intro e w' h
  unfold LinesIs at h
  rw [he] at h
  exact h
theorem LnsAt.len {W : World} {B n : Nat} {l : List (Int × List ByteArray)} {v : Value} (h : LnsAt W B l n v) : n = l.length := by
  obtain ⟨xs, h1, h2, h3, h4⟩ := h
  rw [h1, ← h2, List.length_map]
set_option maxHeartbeats 4000000 in
set_option maxRecDepth 100000 in
theorem lexJoin_any (w : World) (s t : ByteArray) (hs : s.size ≤ 1125899906842624) (ht : t.size ≤ 1125899906842624) (htab : Tab w) :
    Calls Tryd.prog 5 #[.string s, .string t] w fun e w' => e = .returned (.bool true) ∧ Below w.heap.size w w' := by
  have HT := Lib.hid htab
  clear htab
  go_enter Tryd.func5, Tryd.ntmps5
  by_cases hbig : (4000 : Int) < (s.size : Int) + (t.size : Int)
  · go_wp2_with (go_at_call 7; refine (head_any w HT.out).mono ?_; rintro e w1 ⟨rfl, h1⟩; have H1 := Lib.hid h1; clear h1)
    go_ret
    exact ⟨rfl, H1.out⟩
  have HSZ := Lib.hid (show s.size + t.size ≤ 4000 by omega)
  go_wp2_with (go_at_call 7; refine (head_any w HT.out).mono ?_; rintro e w1 ⟨rfl, h1⟩; have H1 := Lib.hid h1; clear h1)
  go_loopw [6, 7] (fun n i wr => ∃ j : Nat, j ≤ s.size ∧ i = .int .i64 j ∧ n = .int .i64 (((1 + endsTo s.data.toList j : Nat)) : Int) ∧ Hid (w1 = wr)) (fun _ i _ => s.size - (intOf i).toNat)
  case atStart => exact ⟨0, Nat.zero_le _, rfl, rfl, Lib.hid rfl⟩
  case round =>
    obtain ⟨j, hj, rfl, rfl, HW⟩ := hrel
    have hes := ends_small s.data.toList j
    have hs5 := HSZ.out
    obtain ⟨E, hE⟩ : ∃ E, E = 1 + endsTo s.data.toList j := ⟨_, rfl⟩
    rw [← hE]
    have hE5 : (E : Int) ≤ 5001 := by omega
    have HE := Lib.hid hE
    clear hE hes hs5
    by_cases hlt : j < s.size
    · obtain ⟨b, hc⟩ := string_at hlt
      have hix := fun w => index_at (P := Tryd.prog) (t := 9) (by go_side) hc w
      have HC := Lib.hid hc
      have hj1 : (j : Int) < (s.size : Int) := by omega
      clear hc
      by_cases h10 : b = 10
      · have HN := Lib.hid (show 1 + endsTo s.data.toList (j + 1) = E + 1 by rw [HE.out, ends_next HC.out, if_pos h10]; omega)
        have h33 : (b.toNat : Int) = 10 := by subst h10; rfl
        clear h10
        generalize (b.toNat : Int) = n at *
        subst h33
        go_wp2_with fail
        go_roundw
        case rel => exact ⟨j + 1, by omega, by go_num, by rw [HN.out]; go_num, HW⟩
        case measure => simp [intOf]; omega
      · have HN := Lib.hid (show 1 + endsTo s.data.toList (j + 1) = E by rw [HE.out, ends_next HC.out, if_neg h10]; rfl)
        have h33 : ((b.toNat : Int) == 10) = false := by rw [beq_eq_false_iff_ne]; intro e; exact h10 (UInt8.toNat_inj.1 (by simp; omega))
        clear h10
        go_wp2_with fail
        go_roundw
        case rel => exact ⟨j + 1, by omega, by go_num, by rw [HN.out], HW⟩
        case measure => simp [intOf]; omega
    · have hj2 : ¬ (j : Int) < (s.size : Int) := by omega
      have HEE := Lib.hid (show E = ends s.data.toList + 1 by rw [HE.out, ends_all (s := s) (by omega)]; omega)
      obtain rfl := HW.out
      clear HE
      have hll : s.data.toList.length + t.data.toList.length ≤ 4000 := by
        have h1 := HSZ.out
        have h2 : s.data.toList.length = s.size := by simp
        have h3 : t.data.toList.length = t.size := by simp
        omega
      have HLL := Lib.hid hll
      have HJL : Hid ((s ++ ⟨#[10]⟩ ++ t).data.toList = s.data.toList ++ 10 :: t.data.toList) := Lib.hid (by rw [concat_list, concat_list, List.append_assoc]; rfl)
      have HJZ : Hid ((s ++ ⟨#[10]⟩ ++ t).size ≤ 1000000) := Lib.hid (by
        rw [concat_size, concat_size]
        have h1 := HSZ.out
        have h2 : (⟨#[10]⟩ : ByteArray).size = 1 := rfl
        omega)
      clear hll hj2
      obtain ⟨J, hJ⟩ : ∃ J, J = s ++ ⟨#[10]⟩ ++ t := ⟨_, rfl⟩
      rw [← hJ] at HJL HJZ
      have HJ := Lib.hid hJ
      clear hJ
      have hj2 : ¬ (j : Int) < (s.size : Int) := by omega
      rcases he : textE s.data.toList with _ | ⟨k, no⟩
      case some =>
        have HEJ : Hid (textE J.data.toList = some (k, no)) := Lib.hid (by rw [HJL.out]; exact join_first HLL.out he)
        have hk := (textE_some he).1
        have h1 : (k == 0) = false := by rw [beq_eq_false_iff_ne]; omega
        have h2 : (k != 0) = true := by rw [bne, h1]; rfl
        have HES := Lib.hid he
        clear he hk
        go_wp2_with fail
        refine (lines_bad w1 s (by have := HSZ.out; omega) (HT.out.below H1.out (Nat.le_refl _)) HES.out).mono ?_
        rintro e w2 ⟨rfl, hb⟩
        have H2 := Lib.hid (H1.out.trans (hb.mono H1.out.size))
        clear hb
        go_wp2_with fail
        refine (lines_all w2 t (by have := HSZ.out; omega) (HT.out.below H2.out (Nat.le_refl _))).mono ?_
        rintro e w3 ⟨xs, A, c, k2, no2, rfl, -, hb, -⟩
        have H3 := Lib.hid (H2.out.trans (hb.mono H2.out.size))
        clear hb
        go_wp2_with fail
        rw [← HJ.out]
        refine (lines_bad w3 J HJZ.out (HT.out.below H3.out (Nat.le_refl _)) HEJ.out).mono ?_
        rintro e w4 ⟨rfl, hb⟩
        have H4 := Lib.hid (H3.out.trans (hb.mono H3.out.size))
        clear hb
        go_wp2_with fail
        go_ret
        exact ⟨rfl, H4.out⟩
      case none =>
        have HES := Lib.hid he
        clear he
        rcases hf : textE t.data.toList with _ | ⟨k, no⟩
        case some =>
          have HEJ : Hid (textE J.data.toList = some (k, no + (E : Int))) := Lib.hid (by rw [HJL.out, HEE.out]; exact join_next HLL.out HES.out hf)
          have hk := (textE_some hf).1
          have h1 : (k == 0) = false := by rw [beq_eq_false_iff_ne]; omega
          have h2 : (k != 0) = true := by rw [bne, h1]; rfl
          have hno : -10000000 ≤ no ∧ no ≤ 10000000 := by
            have h3 := (textE_some hf).2
            have h4 := HLL.out
            have h5 : ends t.data.toList ≤ t.data.toList.length := List.count_le_length
            omega
          obtain ⟨hno1, hno2⟩ := hno
          have hw : IntKind.i64.wrap (no + (E : Int)) = no + (E : Int) := IntWalk.i64_in _ (by omega)
          have HEF := Lib.hid hf
          clear hf hk
          go_wp2_with fail
          refine (lines_own w1 s (by have := HSZ.out; omega) (HT.out.below H1.out (Nat.le_refl _)) HES.out).mono ?_
          rintro e w2 ⟨A, n, c, rfl, -, hb⟩
          have H2 := Lib.hid (H1.out.trans (hb.mono H1.out.size))
          clear hb
          go_wp2_with fail
          refine (lines_bad w2 t (by have := HSZ.out; omega) (HT.out.below H2.out (Nat.le_refl _)) HEF.out).mono ?_
          rintro e w3 ⟨rfl, hb⟩
          have H3 := Lib.hid (H2.out.trans (hb.mono H2.out.size))
          clear hb
          go_wp2_with fail
          rw [← HJ.out]
          refine (lines_bad w3 J HJZ.out (HT.out.below H3.out (Nat.le_refl _)) HEJ.out).mono ?_
          rintro e w4 ⟨rfl, hb⟩
          have H4 := Lib.hid (H3.out.trans (hb.mono H3.out.size))
          clear hb
          go_wp2_with fail
          go_ret
          exact ⟨rfl, H4.out⟩
        case none =>
          have HEF := Lib.hid hf
          clear hf
          have hjf := join_fine HLL.out HES.out HEF.out
          rw [← HJL.out] at hjf
          have HEJ := Lib.hid hjf.1
          have HTJ : Hid (toldL (textL J.data.toList) = toldL (textL s.data.toList) ++ (toldL (textL t.data.toList)).map (shiftT E)) := Lib.hid (by rw [hjf.2, told_append, told_shift, HEE.out])
          clear hjf
          have hto : ∀ x ∈ toldL (textL t.data.toList), 0 ≤ x.1 ∧ x.1 ≤ 100000 := fun x hx => by
            unfold toldL at hx
            obtain ⟨y, hy, rfl⟩ := List.mem_map.1 hx
            have h3 := (textL_numbers t.data.toList).2 y hy
            have h4 := HLL.out
            have h5 : ends t.data.toList ≤ t.data.toList.length := List.count_le_length
            unfold toldOf
            simp only
            omega
          have hlA : (toldL (textL s.data.toList)).length + (toldL (textL t.data.toList)).length ≤ 10000 := by
            unfold toldL
            rw [List.length_map, List.length_map]
            have h1 := gather_len (itemsOf s.data.toList)
            have h2 := (itemsOf_small s.data.toList).1
            have h3 := gather_len (itemsOf t.data.toList)
            have h4 := (itemsOf_small t.data.toList).1
            have h5 := HLL.out
            unfold textL
            omega
          have hsmA := told_small _ HES.out
          have hsmJ := told_small _ HEJ.out
          obtain ⟨la, hla⟩ : ∃ la, la = toldL (textL s.data.toList) := ⟨_, rfl⟩
          obtain ⟨lb, hlb⟩ : ∃ lb, lb = toldL (textL t.data.toList) := ⟨_, rfl⟩
          obtain ⟨lc, hlc⟩ : ∃ lc, lc = toldL (textL J.data.toList) := ⟨_, rfl⟩
          rw [← hla, ← hlb, ← hlc] at HTJ
          rw [← hla, ← hlb] at hlA
          rw [← hlb] at hto
          rw [← hlc] at hsmJ
          have HLA := Lib.hid hla
          have HLB := Lib.hid hlb
          have HLC := Lib.hid hlc
          have HTO := Lib.hid hto
          have HLAB := Lib.hid hlA
          have HSJ := Lib.hid hsmJ
          clear hla hlb hlc hto hlA hsmA hsmJ
          go_wp2_with fail
          refine (lines_own w1 s (by have := HSZ.out; omega) (HT.out.below H1.out (Nat.le_refl _)) HES.out).mono ?_
          rintro e w2 ⟨A, n, c, rfl, hl1, hb1⟩
          rw [← HLA.out] at hl1
          have HL1 := Lib.hid hl1
          have H2 := Lib.hid (H1.out.trans (hb1.mono H1.out.size))
          have K2 := Lib.hid hb1
          clear hl1 hb1
          go_wp2_with fail
          refine (lines_own w2 t (by have := HSZ.out; omega) (HT.out.below H2.out (Nat.le_refl _)) HEF.out).mono ?_
          rintro e w3 ⟨A2, n2, c2, rfl, hl2, hb2⟩
          rw [← HLB.out] at hl2
          have HL2 := Lib.hid hl2
          have HAB := Lib.hid (apart_early HL1.out hl2 (Nat.le_refl _))
          have HL1b := Lib.hid (HL1.out.below hb2)
          have H3 := Lib.hid (H2.out.trans (hb2.mono H2.out.size))
          have K3 := Lib.hid (K2.out.trans (hb2.mono K2.out.size))
          clear hl2 hb2 HL1
          go_wp2_with fail
          rw [← HJ.out]
          refine (lines_own w3 J HJZ.out (HT.out.below H3.out (Nat.le_refl _)) HEJ.out).mono ?_
          rintro e w4 ⟨A3, n3, c3, rfl, hl3, hb3⟩
          rw [← HLC.out] at hl3
          have HAC := Lib.hid (apart_early HL1b.out hl3 (Nat.le_refl _))
          have HQ : Hid (Joined w1 w1.heap.size w2.heap.size w3.heap.size n2 n3 n la lb lc (.slice A n c) (.slice A2 n2 c2) (.slice A3 n3 c3) w4) := Lib.hid ⟨HL1b.out.below hb3, HL2.out.below hb3, hl3, HAB.out, HAC.out, K3.out.trans (hb3.mono K3.out.size), Nat.le_refl _⟩
          clear hl3 hb3 HL1b HL2 HAB HAC
          go_wp2_with fail
          have hn := HQ.out.mine.len
          have hn2 := HQ.out.next.len
          have hn12 := HLAB.out
          have hn2m : n2 ≤ 10000 := by omega
          have HN := Lib.hid hn
          have HN2 := Lib.hid hn2
          clear hn hn2 hn12
          go_loopw [8, 17] (fun v i wr => ∃ (j n : Nat) (A : Option Addr) (c : Nat), j ≤ n2 ∧ i = .int .i64 j ∧ v = .slice A n c ∧ Hid (Joined w1 w1.heap.size w2.heap.size w3.heap.size n2 n3 n (la ++ (lb.take j).map (shiftT E)) lb lc v (.slice A2 n2 c2) (.slice A3 n3 c3) wr)) (fun _ i _ => n2 - (intOf i).toNat)
          case atStart => exact ⟨0, n, A, c, Nat.zero_le _, rfl, rfl, Lib.hid (by simpa using HQ.out)⟩
          case round =>
            clear HQ
            obtain ⟨i, m, Av, cv, hi, rfl, rfl, HQ⟩ := hrel
            by_cases hlt2 : i < n2
            · have hi1 : (i : Int) < (n2 : Int) := by omega
              have hi0 : (0 : Int) ≤ (i : Int) := by omega
              have hm : m ≤ 20000 := by
                have h1 := HQ.out.mine.len
                have h2 := HLAB.out
                rw [List.length_append, List.length_map, List.length_take] at h1
                omega
              obtain ⟨ys, hyn, hyt, hyo, hyw⟩ := id HQ.out.next
              obtain ⟨y, hy⟩ : ∃ y, ys[i]? = some y := ⟨_, List.getElem?_eq_getElem (by omega)⟩
              have hrow : LawFrame.RowsAt wr 2 Ln.cells ys (.slice A2 ys.length c2) := by
                have := LawFrame.RowsAt.of_own Ln.cells_len (by decide) hyo
                rw [← hyn]; exact this
              obtain ⟨g, off, hA, -, hcell⟩ := row_at hrow hy
              subst hA
              have y0 := hcell 0 _ rfl
              have y1 := hcell 1 _ rfl
              clear hcell hrow
              simp only [Nat.add_zero] at y0
              have hYW := hyw y (List.mem_of_getElem? hy)
              have hlby : lb[i]? = some y.told := by rw [← hyt, List.getElem?_map, hy]; rfl
              have hyr := HTO.out _ (List.mem_of_getElem? hlby)
              have HLBY := Lib.hid hlby
              obtain ⟨yn, yv, yw⟩ := y
              simp only at y0 y1 hYW
              obtain ⟨Ay, cy, e⟩ : ∃ A c, yv = .slice A yw.length c := by obtain ⟨B', hB⟩ := hYW; exact own_form hB
              subst e
              have HYW := Lib.hid hYW
              have hy0 : 0 ≤ yn := hyr.1
              have hy1 : yn ≤ 100000 := hyr.2
              have hww : IntKind.i64.wrap (yn + (E : Int)) = yn + (E : Int) := IntWalk.i64_in _ (by omega)
              obtain ⟨xs, hxn, hxt, hxo, hxw⟩ := id HQ.out.mine
              have HXN := Lib.hid hxn
              have HXT := Lib.hid hxt
              have HXO := Lib.hid hxo
              have HXW := Lib.hid hxw
              obtain ⟨i0, hi0', hz0, hz1, hz2⟩ := line_parts
              have hbase : w1.heap.size ≤ wr.heap.size := HQ.out.old.size
              have HO := Lib.hid (one_line (yn + (E : Int)) Ay yw.length cy)
              clear hyn hyt hyo hyw hy hYW hlby hyr hxn hxt hxo hxw
              go_upto_region 20 with fail
              go_region_law (first
                | (refine Words.step_append_any (wr.alloc (.cells #[.int .i64 (yn + (E : Int)), .slice Ay yw.length cy] 27)).drew (by rfl) (.tmp 93) (.tmp 107) 22 (by rfl) w1.heap.size 27 i0 _ 2 32 Tryd.underlying22 hi0' hz0 hz1 hz2 rfl (by omega) (.slice Av m cv) m (xs.flatMap Ln.cells) (by rfl) ((HXO.out).alloc _) (wr.heap.size + 1) (some ⟨wr.heap.size, 0, none⟩) 1 1 (Ln.cells ⟨yn + (E : Int), .slice Ay yw.length cy, yw⟩) (by rfl) (reads_line wr _ rfl ⟨yn + (E : Int), .slice Ay yw.length cy, yw⟩ _) HO.out (by simp only [maxLen]; omega) (by omega) (by show w1.heap.size ≤ (wr.alloc _).heap.size; simp; omega) ?_; intro v' w5 ho hg hv'; obtain ⟨Av', cv', rfl⟩ := own_form ho; have HX := Lib.hid (Joined.push (W := wr.drew) (ob := .cells #[.int .i64 (yn + (E : Int)), .slice Ay yw.length cy] 27) HQ.out.drew xs HXN.out HXT.out HXO.out HXW.out ⟨yn + (E : Int), .slice Ay yw.length cy, yw⟩ HYW.out ho hg hv'); clear ho hg hv'))
              all_goals go_wp2_with fail
              all_goals go_roundw
              all_goals first
                | exact ⟨i + 1, m + 1, Av', cv', by omega, by go_num, rfl, Lib.hid (by
                    have h := HX.out
                    rw [take_next HLBY.out, List.map_append, ← List.append_assoc]
                    exact h)⟩
                | (simp [intOf]; omega)
            · have hi2 : ¬ (i : Int) < (n2 : Int) := by omega
              have htold : la ++ (lb.take i).map (shiftT E) = lc := by
                rw [show i = lb.length by have := HN2.out; omega, List.take_length, HTJ.out]
              obtain ⟨xs, hxn, hxt, hxls⟩ := lns_ls HQ.out.mine (by rw [htold]; exact HSJ.out)
              obtain ⟨zs, hzn, hzt, hzls⟩ := lns_ls HQ.out.all_ HSJ.out
              have hml := HQ.out.mine.len
              have hzl := HQ.out.all_.len
              have hab := HLAB.out
              have hlcl : lc.length ≤ 20000 := by rw [HTJ.out, List.length_append, List.length_map]; omega
              rw [htold] at hml hxt
              subst hxn hzn
              have HSAME := Lib.hid (decide_eq_true (p := xs.map Ln.told = zs.map Ln.told) (hxt.trans hzt.symm))
              have HXS := Lib.hid hxls
              have HZS := Lib.hid hzls
              have HXL := Lib.hid (show xs.length ≤ 1125899906842624 by omega)
              have HZL := Lib.hid (show zs.length ≤ 1125899906842624 by omega)
              have HBE := Lib.hid (H1.out.trans (HQ.out.old.mono H1.out.size))
              clear hxt hxls hzt hzls hml hzl hab hlcl htold
              go_wp2_with fail
              refine (same_any _ xs zs _ _ HXS.out HZS.out HXL.out HZL.out).mono ?_
              rintro e w6 ⟨rfl, q, rfl⟩
              rw [HSAME.out]
              go_wp2_with fail
              go_ret
              exact ⟨rfl, below_drewn HBE.out q⟩
end Go.Proofs.YtpoihpehdlogbaaDoor
