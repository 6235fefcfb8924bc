/-
  THE WALKS of number: a word that is a number.
-/
import Derived.Test.YtckbdnkonccmiaaDoorMatWord
namespace Go.Proofs.YtckbdnkonccmiaaDoor
open Go.RowKit
def digB (c : UInt8) : Bool := decide (48 ≤ c.toNat) && decide (c.toNat ≤ 57)
def numGo : List UInt8 → Int → Option Int
  | [], n => some n
  | c :: l, n => if digB c = true then (if 100000 < 10 * n + ((c.toNat : Int) - 48) then none else numGo l (10 * n + ((c.toNat : Int) - 48))) else none
/-- a word's number -/
def numO (s : ByteArray) : Option Int := if s.data.toList = [] then none else if 1 < s.data.toList.length ∧ s.data.toList[0]? = some 48 then none else numGo s.data.toList 0
def numF (ls : List ByteArray) (wr : Bool) : Int × List ByteArray × Bool := match numO (wordF ls wr).1 with | some n => (n, (wordF ls wr).2, wr) | none => (0, (wordF ls wr).2, true)
theorem numF_none {ls : List ByteArray} {wr : Bool} (h : numO (wordF ls wr).1 = none) : numF ls wr = (0, (wordF ls wr).2, true) := by unfold numF; rw [h]
theorem numF_some {ls : List ByteArray} {wr : Bool} {n : Int} (h : numO (wordF ls wr).1 = some n) : numF ls wr = (n, (wordF ls wr).2, wr) := by unfold numF; rw [h]
theorem numGo_bad {c : UInt8} {l : List UInt8} {n : Int} (h : digB c = false) : numGo (c :: l) n = none := by unfold numGo; rw [if_neg (by rw [h]; decide)]
theorem numGo_big {c : UInt8} {l : List UInt8} {n : Int} (h : digB c = true) (h2 : 100000 < 10 * n + ((c.toNat : Int) - 48)) : numGo (c :: l) n = none := by unfold numGo; rw [if_pos h, if_pos h2]
theorem numGo_on {c : UInt8} {l : List UInt8} {n : Int} (h : digB c = true) (h2 : ¬ 100000 < 10 * n + ((c.toNat : Int) - 48)) : numGo (c :: l) n = numGo l (10 * n + ((c.toNat : Int) - 48)) := by rw [numGo, if_pos h, if_neg h2]
theorem drop_at {s : ByteArray} {k : Nat} {c : UInt8} (h : s.data.toList[k]? = some c) : s.data.toList.drop k = c :: s.data.toList.drop (k + 1) := by
  obtain ⟨hk, he⟩ := List.getElem?_eq_some_iff.1 h
  rw [List.drop_eq_getElem_cons hk, he]
theorem size_zero {s : ByteArray} (h : s.size = 0) : s.data.toList = [] := List.length_eq_zero_iff.1 (by
  have : s.data.toList.length = s.size := by simp
  omega)
/-- what number leaves -/
def NumIs (c : RC) (ls : List ByteArray) (wr un : Bool) (w : World) (e : Ending) (w' : World) : Prop := e = .returned (.int .i64 (numF ls wr).1) ∧ RT c (numF ls wr).2.1 (numF ls wr).2.2 un w w'
set_option maxHeartbeats 2000000 in
set_option maxRecDepth 100000 in
theorem number_any (c : RC) (ls : List ByteArray) (wr un : Bool) (w : World) (h : RS c ls wr un w) (hl : ls.length ≤ 1000000) (hz : ∀ s ∈ ls, s.size ≤ 1000000) :
    Calls Tryd.prog 72 #[.pointer (some ⟨c.g, 12, none⟩)] w (NumIs c ls wr un w) := by
  have hw := word_any c ls wr un w h hl
  have hsz : (wordF ls wr).1.size ≤ 1000000 := by
    unfold wordF
    split
    · exact Nat.zero_le _
    · split
      · exact Nat.zero_le _
      · exact hz _ (by simp)
  have HF := @numF_none ls wr
  have HG := fun n => @numF_some ls wr n
  unfold NumIs
  obtain ⟨F, hF⟩ : ∃ F, F = numF ls wr := ⟨_, rfl⟩
  rw [← hF] at HF HG ⊢
  generalize wordF ls wr = sl at *
  obtain ⟨s, ls'⟩ := sl
  (try simp only at hw hsz HF HG)
  have HW := Lib.hid hw
  have HFN := Lib.hid HF
  have HFS := Lib.hid HG
  clear hw h hF HF HG
  go_enter Tryd.func72, Tryd.ntmps72
  go_wp2_with fail
  refine HW.out.mono ?_
  rintro e w1 ⟨rfl, h1, hgr⟩
  obtain ⟨vl, h1⟩ := h1
  have HGR := Lib.hid hgr
  clear hgr
  have f13 : w1.frozen? ⟨c.g, 13, none⟩ = false := h1.free 13
  have c13 : w1.cell? ⟨c.g, 13, none⟩ = some (.bool wr) := h1.cell 13
  have HR := Lib.hid h1
  have HB : Hid (RV c ls' true un vl (w1.setCell ⟨c.g, 13, none⟩ (.bool true))) := Lib.hid (h1.store 13 (.bool true) rfl h1.left)
  clear h1 HW
  by_cases h0 : (s.size : Int) = 0
  · have HN := Lib.hid (HFN.out (by unfold numO; rw [if_pos (size_zero (by omega))]))
    have e0 : (s.toList == []) = true := by rw [ByteArray.toList_eq, size_zero (by omega)]; rfl
    clear h0
    go_wp2_with fail
    go_ret
    rw [HN.out]
    exact ⟨rfl, ⟨_, HB.out⟩, grown_trans HGR.out (grown_set _ _ _ _)⟩
  · obtain ⟨c0, hc0⟩ := string_at (s := s) (k := 0) (by omega)
    have hne : ¬ s.data.toList = [] := by intro e; rw [e] at hc0; simp at hc0
    have e0 : (s.toList == []) = false := by rw [ByteArray.toList_eq, beq_eq_false_iff_ne]; exact hne
    have hix0 := fun w => index_at (P := Tryd.prog) (t := 9) (by go_side) hc0 w
    simp only [Int.ofNat_zero] at hix0
    have hlen : s.data.toList.length = s.size := by simp
    have HC0 := Lib.hid hc0
    clear hc0 h0
    by_cases hz0 : (1 : Int) < (s.size : Int) ∧ c0 = 48
    · obtain ⟨hz1, hz2⟩ := hz0
      have HN := Lib.hid (HFN.out (by unfold numO; rw [if_neg hne, if_pos ⟨by omega, by rw [HC0.out, hz2]⟩]))
      have e1 : ((c0.toNat : Int) == 48) = true := by rw [hz2]; rfl
      clear hne hz2
      go_wp2_with fail
      go_ret
      rw [HN.out]
      exact ⟨rfl, ⟨_, HB.out⟩, grown_trans HGR.out (grown_set _ _ _ _)⟩
    · have HNO := Lib.hid (show numO s = numGo s.data.toList 0 by unfold numO; rw [if_neg hne, if_neg (by rw [HC0.out]; intro h; exact hz0 ⟨by omega, Option.some.inj h.2⟩)])
      have hcs : ¬ (1 : Int) < (s.size : Int) ∨ (1 : Int) < (s.size : Int) ∧ ((c0.toNat : Int) == 48) = false := by
        by_cases a : (1 : Int) < (s.size : Int)
        · refine .inr ⟨a, ?_⟩
          rw [beq_eq_false_iff_ne]
          intro e
          exact hz0 ⟨a, UInt8.toNat_inj.1 (by rw [show (48 : UInt8).toNat = 48 from rfl]; omega)⟩
        · exact .inl a
      clear hz0 hne
      rcases hcs with hcs | ⟨hcs, e1⟩
      · go_wp2_with fail
        clear hix0
        go_loopw [4, 25] (fun n i wr' => ∃ (k : Nat) (q : Int), k ≤ s.size ∧ i = .int .i64 k ∧ n = .int .i64 q ∧ 0 ≤ q ∧ q ≤ 100000 ∧ Hid (numO s = numGo (s.data.toList.drop k) q) ∧ Hid (w1 = wr')) (fun _ i _ => s.size - (intOf i).toNat)
        case atStart => exact ⟨0, 0, Nat.zero_le _, rfl, rfl, by omega, by omega, Lib.hid (by rw [HNO.out]; rfl), Lib.hid rfl⟩
        case round =>
          obtain ⟨k, q, hk, rfl, rfl, hq0, hq1, HQ, HX⟩ := hrel
          obtain rfl := HX.out
          by_cases hlt : k < s.size
          · obtain ⟨c, hc⟩ := string_at hlt
            have hix := fun w => index_at (P := Tryd.prog) (t := 9) (by go_side) hc w
            have HD := Lib.hid (drop_at hc)
            have hk1 : (k : Int) < (s.size : Int) := by omega
            have hc0 : (0 : Int) ≤ (c.toNat : Int) := by omega
            have hc1 : (c.toNat : Int) < 256 := by have := c.toNat_lt; omega
            have hdg : (digB c = false ∧ ((c.toNat : Int) < 48 ∨ ¬ (c.toNat : Int) < 48 ∧ 57 < (c.toNat : Int))) ∨ (digB c = true ∧ ¬ (c.toNat : Int) < 48 ∧ ¬ 57 < (c.toNat : Int)) := by
              unfold digB
              by_cases a : (c.toNat : Int) < 48
              · exact .inl ⟨by rw [decide_eq_false (by omega)]; rfl, .inl a⟩
              · by_cases b : 57 < (c.toNat : Int)
                · exact .inl ⟨by rw [decide_eq_false (p := c.toNat ≤ 57) (by omega), Bool.and_false], .inr ⟨a, b⟩⟩
                · exact .inr ⟨by rw [decide_eq_true (by omega), decide_eq_true (by omega)]; rfl, a, b⟩
            clear hc
            obtain ⟨cn, hcn⟩ : ∃ cn : Int, cn = (c.toNat : Int) := ⟨_, rfl⟩
            rw [← hcn] at hdg hix hc0 hc1
            have HCN := Lib.hid hcn
            clear hcn
            rcases hdg with ⟨hd, hcs2⟩ | ⟨hd, g1, g2⟩
            · have HN := Lib.hid (HFN.out (by rw [HQ.out, HD.out, numGo_bad hd]))
              clear hd
              rcases hcs2 with g1 | ⟨g1, g2⟩
              · go_wp2_with fail
                go_ret
                rw [HN.out]
                exact ⟨rfl, ⟨_, HB.out⟩, grown_trans HGR.out (grown_set _ _ _ _)⟩
              · go_wp2_with fail
                go_ret
                rw [HN.out]
                exact ⟨rfl, ⟨_, HB.out⟩, grown_trans HGR.out (grown_set _ _ _ _)⟩
            · have hw0 : IntKind.i64.wrap (10 * q) = 10 * q := IntWalk.i64_in _ (by omega)
              have hw1 : IntKind.u8.wrap (cn - 48) = cn - 48 := by unfold IntKind.wrap; simp [IntKind.signed, IntKind.bits]; omega
              have hw3 : IntKind.i64.wrap (10 * q + (cn - 48)) = 10 * q + (cn - 48) := IntWalk.i64_in _ (by omega)
              have hw4 : IntKind.i64.wrap (cn - 48) = cn - 48 := IntWalk.i64_in _ (by omega)
              have h48 : 48 ≤ cn := by omega
              obtain ⟨q', hq'⟩ : ∃ q', q' = 10 * q + (cn - 48) := ⟨_, rfl⟩
              have hq2 : 0 ≤ q' := by omega
              by_cases hbig : 100000 < q'
              · have HN := Lib.hid (HFN.out (by rw [HQ.out, HD.out, numGo_big hd (by rw [← HCN.out, ← hq']; exact hbig)]))
                rw [hq'] at hbig
                clear hd hq' hq2
                go_wp2_with fail
                go_ret
                rw [HN.out]
                exact ⟨rfl, ⟨_, HB.out⟩, grown_trans HGR.out (grown_set _ _ _ _)⟩
              · have HN := Lib.hid (show numO s = numGo (s.data.toList.drop (k + 1)) (10 * q + (cn - 48)) by rw [HQ.out, HD.out, numGo_on hd (by rw [← HCN.out, ← hq']; exact hbig), HCN.out])
                have hb1 : ¬ 100000 < 10 * q + (cn - 48) := by rw [← hq']; exact hbig
                have hb2 : 0 ≤ 10 * q + (cn - 48) := by omega
                clear hd hq' hq2 hbig
                go_wp2_with fail
                go_roundw
                case rel => exact ⟨k + 1, _, by omega, by go_num, rfl, hb2, by omega, HN, Lib.hid (by trivial)⟩
                case measure => simp [intOf]; omega
          · have hk2 : ¬ (k : Int) < (s.size : Int) := by omega
            have HN := Lib.hid (HFS.out q (by rw [HQ.out, List.drop_of_length_le (by simp; omega)]; rfl))
            go_wp2_with fail
            go_ret
            rw [HN.out]
            exact ⟨rfl, ⟨_, HR.out⟩, HGR.out⟩
      · go_wp2_with fail
        clear hix0
        go_loopw [4, 25] (fun n i wr' => ∃ (k : Nat) (q : Int), k ≤ s.size ∧ i = .int .i64 k ∧ n = .int .i64 q ∧ 0 ≤ q ∧ q ≤ 100000 ∧ Hid (numO s = numGo (s.data.toList.drop k) q) ∧ Hid (w1 = wr')) (fun _ i _ => s.size - (intOf i).toNat)
        case atStart => exact ⟨0, 0, Nat.zero_le _, rfl, rfl, by omega, by omega, Lib.hid (by rw [HNO.out]; rfl), Lib.hid rfl⟩
        case round =>
          obtain ⟨k, q, hk, rfl, rfl, hq0, hq1, HQ, HX⟩ := hrel
          obtain rfl := HX.out
          by_cases hlt : k < s.size
          · obtain ⟨c, hc⟩ := string_at hlt
            have hix := fun w => index_at (P := Tryd.prog) (t := 9) (by go_side) hc w
            have HD := Lib.hid (drop_at hc)
            have hk1 : (k : Int) < (s.size : Int) := by omega
            have hc0 : (0 : Int) ≤ (c.toNat : Int) := by omega
            have hc1 : (c.toNat : Int) < 256 := by have := c.toNat_lt; omega
            have hdg : (digB c = false ∧ ((c.toNat : Int) < 48 ∨ ¬ (c.toNat : Int) < 48 ∧ 57 < (c.toNat : Int))) ∨ (digB c = true ∧ ¬ (c.toNat : Int) < 48 ∧ ¬ 57 < (c.toNat : Int)) := by
              unfold digB
              by_cases a : (c.toNat : Int) < 48
              · exact .inl ⟨by rw [decide_eq_false (by omega)]; rfl, .inl a⟩
              · by_cases b : 57 < (c.toNat : Int)
                · exact .inl ⟨by rw [decide_eq_false (p := c.toNat ≤ 57) (by omega), Bool.and_false], .inr ⟨a, b⟩⟩
                · exact .inr ⟨by rw [decide_eq_true (by omega), decide_eq_true (by omega)]; rfl, a, b⟩
            clear hc
            obtain ⟨cn, hcn⟩ : ∃ cn : Int, cn = (c.toNat : Int) := ⟨_, rfl⟩
            rw [← hcn] at hdg hix hc0 hc1
            have HCN := Lib.hid hcn
            clear hcn
            rcases hdg with ⟨hd, hcs2⟩ | ⟨hd, g1, g2⟩
            · have HN := Lib.hid (HFN.out (by rw [HQ.out, HD.out, numGo_bad hd]))
              clear hd
              rcases hcs2 with g1 | ⟨g1, g2⟩
              · go_wp2_with fail
                go_ret
                rw [HN.out]
                exact ⟨rfl, ⟨_, HB.out⟩, grown_trans HGR.out (grown_set _ _ _ _)⟩
              · go_wp2_with fail
                go_ret
                rw [HN.out]
                exact ⟨rfl, ⟨_, HB.out⟩, grown_trans HGR.out (grown_set _ _ _ _)⟩
            · have hw0 : IntKind.i64.wrap (10 * q) = 10 * q := IntWalk.i64_in _ (by omega)
              have hw1 : IntKind.u8.wrap (cn - 48) = cn - 48 := by unfold IntKind.wrap; simp [IntKind.signed, IntKind.bits]; omega
              have hw3 : IntKind.i64.wrap (10 * q + (cn - 48)) = 10 * q + (cn - 48) := IntWalk.i64_in _ (by omega)
              have hw4 : IntKind.i64.wrap (cn - 48) = cn - 48 := IntWalk.i64_in _ (by omega)
              have h48 : 48 ≤ cn := by omega
              obtain ⟨q', hq'⟩ : ∃ q', q' = 10 * q + (cn - 48) := ⟨_, rfl⟩
              have hq2 : 0 ≤ q' := by omega
              by_cases hbig : 100000 < q'
              · have HN := Lib.hid (HFN.out (by rw [HQ.out, HD.out, numGo_big hd (by rw [← HCN.out, ← hq']; exact hbig)]))
                rw [hq'] at hbig
                clear hd hq' hq2
                go_wp2_with fail
                go_ret
                rw [HN.out]
                exact ⟨rfl, ⟨_, HB.out⟩, grown_trans HGR.out (grown_set _ _ _ _)⟩
              · have HN := Lib.hid (show numO s = numGo (s.data.toList.drop (k + 1)) (10 * q + (cn - 48)) by rw [HQ.out, HD.out, numGo_on hd (by rw [← HCN.out, ← hq']; exact hbig), HCN.out])
                have hb1 : ¬ 100000 < 10 * q + (cn - 48) := by rw [← hq']; exact hbig
                have hb2 : 0 ≤ 10 * q + (cn - 48) := by omega
                clear hd hq' hq2 hbig
                go_wp2_with fail
                go_roundw
                case rel => exact ⟨k + 1, _, by omega, by go_num, rfl, hb2, by omega, HN, Lib.hid (by trivial)⟩
                case measure => simp [intOf]; omega
          · have hk2 : ¬ (k : Int) < (s.size : Int) := by omega
            have HN := Lib.hid (HFS.out q (by rw [HQ.out, List.drop_of_length_le (by simp; omega)]; rfl))
            go_wp2_with fail
            go_ret
            rw [HN.out]
            exact ⟨rfl, ⟨_, HR.out⟩, HGR.out⟩
set_option maxHeartbeats 2000000 in
set_option maxRecDepth 100000 in
theorem number64_any (c : RC) (ls : List ByteArray) (wr un : Bool) (w : World) (h : RS c ls wr un w) (hl : ls.length ≤ 1000000) (hz : ∀ s ∈ ls, s.size ≤ 1000000) :
    Calls Tryd.prog 69 #[.pointer (some ⟨c.g, 12, none⟩)] w (NumIs c ls wr un w) := by
  have hw := word_any c ls wr un w h hl
  have hsz : (wordF ls wr).1.size ≤ 1000000 := by
    unfold wordF
    split
    · exact Nat.zero_le _
    · split
      · exact Nat.zero_le _
      · exact hz _ (by simp)
  have HF := @numF_none ls wr
  have HG := fun n => @numF_some ls wr n
  unfold NumIs
  obtain ⟨F, hF⟩ : ∃ F, F = numF ls wr := ⟨_, rfl⟩
  rw [← hF] at HF HG ⊢
  generalize wordF ls wr = sl at *
  obtain ⟨s, ls'⟩ := sl
  (try simp only at hw hsz HF HG)
  have HW := Lib.hid hw
  have HFN := Lib.hid HF
  have HFS := Lib.hid HG
  clear hw h hF HF HG
  go_enter Tryd.func69, Tryd.ntmps69
  go_wp2_with fail
  refine HW.out.mono ?_
  rintro e w1 ⟨rfl, h1, hgr⟩
  obtain ⟨vl, h1⟩ := h1
  have HGR := Lib.hid hgr
  clear hgr
  have f13 : w1.frozen? ⟨c.g, 13, none⟩ = false := h1.free 13
  have c13 : w1.cell? ⟨c.g, 13, none⟩ = some (.bool wr) := h1.cell 13
  have HR := Lib.hid h1
  have HB : Hid (RV c ls' true un vl (w1.setCell ⟨c.g, 13, none⟩ (.bool true))) := Lib.hid (h1.store 13 (.bool true) rfl h1.left)
  clear h1 HW
  by_cases h0 : (s.size : Int) = 0
  · have HN := Lib.hid (HFN.out (by unfold numO; rw [if_pos (size_zero (by omega))]))
    have e0 : (s.toList == []) = true := by rw [ByteArray.toList_eq, size_zero (by omega)]; rfl
    clear h0
    go_wp2_with fail
    go_ret
    rw [HN.out]
    exact ⟨rfl, ⟨_, HB.out⟩, grown_trans HGR.out (grown_set _ _ _ _)⟩
  · obtain ⟨c0, hc0⟩ := string_at (s := s) (k := 0) (by omega)
    have hne : ¬ s.data.toList = [] := by intro e; rw [e] at hc0; simp at hc0
    have e0 : (s.toList == []) = false := by rw [ByteArray.toList_eq, beq_eq_false_iff_ne]; exact hne
    have hix0 := fun w => index_at (P := Tryd.prog) (t := 9) (by go_side) hc0 w
    simp only [Int.ofNat_zero] at hix0
    have hlen : s.data.toList.length = s.size := by simp
    have HC0 := Lib.hid hc0
    clear hc0 h0
    by_cases hz0 : (1 : Int) < (s.size : Int) ∧ c0 = 48
    · obtain ⟨hz1, hz2⟩ := hz0
      have HN := Lib.hid (HFN.out (by unfold numO; rw [if_neg hne, if_pos ⟨by omega, by rw [HC0.out, hz2]⟩]))
      have e1 : ((c0.toNat : Int) == 48) = true := by rw [hz2]; rfl
      clear hne hz2
      go_wp2_with fail
      go_ret
      rw [HN.out]
      exact ⟨rfl, ⟨_, HB.out⟩, grown_trans HGR.out (grown_set _ _ _ _)⟩
    · have HNO := Lib.hid (show numO s = numGo s.data.toList 0 by unfold numO; rw [if_neg hne, if_neg (by rw [HC0.out]; intro h; exact hz0 ⟨by omega, Option.some.inj h.2⟩)])
      have hcs : ¬ (1 : Int) < (s.size : Int) ∨ (1 : Int) < (s.size : Int) ∧ ((c0.toNat : Int) == 48) = false := by
        by_cases a : (1 : Int) < (s.size : Int)
        · refine .inr ⟨a, ?_⟩
          rw [beq_eq_false_iff_ne]
          intro e
          exact hz0 ⟨a, UInt8.toNat_inj.1 (by rw [show (48 : UInt8).toNat = 48 from rfl]; omega)⟩
        · exact .inl a
      clear hz0 hne
      rcases hcs with hcs | ⟨hcs, e1⟩
      · go_wp2_with fail
        clear hix0
        go_loopw [4, 25] (fun n i wr' => ∃ (k : Nat) (q : Int), k ≤ s.size ∧ i = .int .i64 k ∧ n = .int .i64 q ∧ 0 ≤ q ∧ q ≤ 100000 ∧ Hid (numO s = numGo (s.data.toList.drop k) q) ∧ Hid (w1 = wr')) (fun _ i _ => s.size - (intOf i).toNat)
        case atStart => exact ⟨0, 0, Nat.zero_le _, rfl, rfl, by omega, by omega, Lib.hid (by rw [HNO.out]; rfl), Lib.hid rfl⟩
        case round =>
          obtain ⟨k, q, hk, rfl, rfl, hq0, hq1, HQ, HX⟩ := hrel
          obtain rfl := HX.out
          by_cases hlt : k < s.size
          · obtain ⟨c, hc⟩ := string_at hlt
            have hix := fun w => index_at (P := Tryd.prog) (t := 9) (by go_side) hc w
            have HD := Lib.hid (drop_at hc)
            have hk1 : (k : Int) < (s.size : Int) := by omega
            have hc0 : (0 : Int) ≤ (c.toNat : Int) := by omega
            have hc1 : (c.toNat : Int) < 256 := by have := c.toNat_lt; omega
            have hdg : (digB c = false ∧ ((c.toNat : Int) < 48 ∨ ¬ (c.toNat : Int) < 48 ∧ 57 < (c.toNat : Int))) ∨ (digB c = true ∧ ¬ (c.toNat : Int) < 48 ∧ ¬ 57 < (c.toNat : Int)) := by
              unfold digB
              by_cases a : (c.toNat : Int) < 48
              · exact .inl ⟨by rw [decide_eq_false (by omega)]; rfl, .inl a⟩
              · by_cases b : 57 < (c.toNat : Int)
                · exact .inl ⟨by rw [decide_eq_false (p := c.toNat ≤ 57) (by omega), Bool.and_false], .inr ⟨a, b⟩⟩
                · exact .inr ⟨by rw [decide_eq_true (by omega), decide_eq_true (by omega)]; rfl, a, b⟩
            clear hc
            obtain ⟨cn, hcn⟩ : ∃ cn : Int, cn = (c.toNat : Int) := ⟨_, rfl⟩
            rw [← hcn] at hdg hix hc0 hc1
            have HCN := Lib.hid hcn
            clear hcn
            rcases hdg with ⟨hd, hcs2⟩ | ⟨hd, g1, g2⟩
            · have HN := Lib.hid (HFN.out (by rw [HQ.out, HD.out, numGo_bad hd]))
              clear hd
              rcases hcs2 with g1 | ⟨g1, g2⟩
              · go_wp2_with fail
                go_ret
                rw [HN.out]
                exact ⟨rfl, ⟨_, HB.out⟩, grown_trans HGR.out (grown_set _ _ _ _)⟩
              · go_wp2_with fail
                go_ret
                rw [HN.out]
                exact ⟨rfl, ⟨_, HB.out⟩, grown_trans HGR.out (grown_set _ _ _ _)⟩
            · have hw0 : IntKind.i64.wrap (10 * q) = 10 * q := IntWalk.i64_in _ (by omega)
              have hw1 : IntKind.u8.wrap (cn - 48) = cn - 48 := by unfold IntKind.wrap; simp [IntKind.signed, IntKind.bits]; omega
              have hw3 : IntKind.i64.wrap (10 * q + (cn - 48)) = 10 * q + (cn - 48) := IntWalk.i64_in _ (by omega)
              have hw4 : IntKind.i64.wrap (cn - 48) = cn - 48 := IntWalk.i64_in _ (by omega)
              have h48 : 48 ≤ cn := by omega
              obtain ⟨q', hq'⟩ : ∃ q', q' = 10 * q + (cn - 48) := ⟨_, rfl⟩
              have hq2 : 0 ≤ q' := by omega
              by_cases hbig : 100000 < q'
              · have HN := Lib.hid (HFN.out (by rw [HQ.out, HD.out, numGo_big hd (by rw [← HCN.out, ← hq']; exact hbig)]))
                rw [hq'] at hbig
                clear hd hq' hq2
                go_wp2_with fail
                go_ret
                rw [HN.out]
                exact ⟨rfl, ⟨_, HB.out⟩, grown_trans HGR.out (grown_set _ _ _ _)⟩
              · have HN := Lib.hid (show numO s = numGo (s.data.toList.drop (k + 1)) (10 * q + (cn - 48)) by rw [HQ.out, HD.out, numGo_on hd (by rw [← HCN.out, ← hq']; exact hbig), HCN.out])
                have hb1 : ¬ 100000 < 10 * q + (cn - 48) := by rw [← hq']; exact hbig
                have hb2 : 0 ≤ 10 * q + (cn - 48) := by omega
                clear hd hq' hq2 hbig
                go_wp2_with fail
                go_roundw
                case rel => exact ⟨k + 1, _, by omega, by go_num, rfl, hb2, by omega, HN, Lib.hid (by trivial)⟩
                case measure => simp [intOf]; omega
          · have hk2 : ¬ (k : Int) < (s.size : Int) := by omega
            have HN := Lib.hid (HFS.out q (by rw [HQ.out, List.drop_of_length_le (by simp; omega)]; rfl))
            go_wp2_with fail
            go_ret
            rw [HN.out]
            exact ⟨rfl, ⟨_, HR.out⟩, HGR.out⟩
      · go_wp2_with fail
        clear hix0
        go_loopw [4, 25] (fun n i wr' => ∃ (k : Nat) (q : Int), k ≤ s.size ∧ i = .int .i64 k ∧ n = .int .i64 q ∧ 0 ≤ q ∧ q ≤ 100000 ∧ Hid (numO s = numGo (s.data.toList.drop k) q) ∧ Hid (w1 = wr')) (fun _ i _ => s.size - (intOf i).toNat)
        case atStart => exact ⟨0, 0, Nat.zero_le _, rfl, rfl, by omega, by omega, Lib.hid (by rw [HNO.out]; rfl), Lib.hid rfl⟩
        case round =>
          obtain ⟨k, q, hk, rfl, rfl, hq0, hq1, HQ, HX⟩ := hrel
          obtain rfl := HX.out
          by_cases hlt : k < s.size
          · obtain ⟨c, hc⟩ := string_at hlt
            have hix := fun w => index_at (P := Tryd.prog) (t := 9) (by go_side) hc w
            have HD := Lib.hid (drop_at hc)
            have hk1 : (k : Int) < (s.size : Int) := by omega
            have hc0 : (0 : Int) ≤ (c.toNat : Int) := by omega
            have hc1 : (c.toNat : Int) < 256 := by have := c.toNat_lt; omega
            have hdg : (digB c = false ∧ ((c.toNat : Int) < 48 ∨ ¬ (c.toNat : Int) < 48 ∧ 57 < (c.toNat : Int))) ∨ (digB c = true ∧ ¬ (c.toNat : Int) < 48 ∧ ¬ 57 < (c.toNat : Int)) := by
              unfold digB
              by_cases a : (c.toNat : Int) < 48
              · exact .inl ⟨by rw [decide_eq_false (by omega)]; rfl, .inl a⟩
              · by_cases b : 57 < (c.toNat : Int)
                · exact .inl ⟨by rw [decide_eq_false (p := c.toNat ≤ 57) (by omega), Bool.and_false], .inr ⟨a, b⟩⟩
                · exact .inr ⟨by rw [decide_eq_true (by omega), decide_eq_true (by omega)]; rfl, a, b⟩
            clear hc
            obtain ⟨cn, hcn⟩ : ∃ cn : Int, cn = (c.toNat : Int) := ⟨_, rfl⟩
            rw [← hcn] at hdg hix hc0 hc1
            have HCN := Lib.hid hcn
            clear hcn
            rcases hdg with ⟨hd, hcs2⟩ | ⟨hd, g1, g2⟩
            · have HN := Lib.hid (HFN.out (by rw [HQ.out, HD.out, numGo_bad hd]))
              clear hd
              rcases hcs2 with g1 | ⟨g1, g2⟩
              · go_wp2_with fail
                go_ret
                rw [HN.out]
                exact ⟨rfl, ⟨_, HB.out⟩, grown_trans HGR.out (grown_set _ _ _ _)⟩
              · go_wp2_with fail
                go_ret
                rw [HN.out]
                exact ⟨rfl, ⟨_, HB.out⟩, grown_trans HGR.out (grown_set _ _ _ _)⟩
            · have hw0 : IntKind.i64.wrap (10 * q) = 10 * q := IntWalk.i64_in _ (by omega)
              have hw1 : IntKind.u8.wrap (cn - 48) = cn - 48 := by unfold IntKind.wrap; simp [IntKind.signed, IntKind.bits]; omega
              have hw3 : IntKind.i64.wrap (10 * q + (cn - 48)) = 10 * q + (cn - 48) := IntWalk.i64_in _ (by omega)
              have hw4 : IntKind.i64.wrap (cn - 48) = cn - 48 := IntWalk.i64_in _ (by omega)
              have h48 : 48 ≤ cn := by omega
              obtain ⟨q', hq'⟩ : ∃ q', q' = 10 * q + (cn - 48) := ⟨_, rfl⟩
              have hq2 : 0 ≤ q' := by omega
              by_cases hbig : 100000 < q'
              · have HN := Lib.hid (HFN.out (by rw [HQ.out, HD.out, numGo_big hd (by rw [← HCN.out, ← hq']; exact hbig)]))
                rw [hq'] at hbig
                clear hd hq' hq2
                go_wp2_with fail
                go_ret
                rw [HN.out]
                exact ⟨rfl, ⟨_, HB.out⟩, grown_trans HGR.out (grown_set _ _ _ _)⟩
              · have HN := Lib.hid (show numO s = numGo (s.data.toList.drop (k + 1)) (10 * q + (cn - 48)) by rw [HQ.out, HD.out, numGo_on hd (by rw [← HCN.out, ← hq']; exact hbig), HCN.out])
                have hb1 : ¬ 100000 < 10 * q + (cn - 48) := by rw [← hq']; exact hbig
                have hb2 : 0 ≤ 10 * q + (cn - 48) := by omega
                clear hd hq' hq2 hbig
                go_wp2_with fail
                go_roundw
                case rel => exact ⟨k + 1, _, by omega, by go_num, rfl, hb2, by omega, HN, Lib.hid (by trivial)⟩
                case measure => simp [intOf]; omega
          · have hk2 : ¬ (k : Int) < (s.size : Int) := by omega
            have HN := Lib.hid (HFS.out q (by rw [HQ.out, List.drop_of_length_le (by simp; omega)]; rfl))
            go_wp2_with fail
            go_ret
            rw [HN.out]
            exact ⟨rfl, ⟨_, HR.out⟩, HGR.out⟩
end Go.Proofs.YtckbdnkonccmiaaDoor
