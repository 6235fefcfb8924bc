/-
  Trip of a latch that is in a group, walked: five ways.
-/
import Derived.Test.YtcaobjmngdlklaaLatchTrip
namespace Go.Proofs.Ytcaobjmngdlklaa
open Go.RowKit
theorem LAt.facts {B g m1 m2 N b n c k : Nat} {s : LS} {w : World} {o : One} (h : LAt B g (.slice (some ⟨b, 0, none⟩) n c) m1 m2 N s w) (ho : s.l[k]? = some o) :
    w.cell? ⟨g, 0, none⟩ = some (.slice (some ⟨b, 0, none⟩) n c) ∧ w.cell? ⟨g, 1, none⟩ = some (.map (some m1)) ∧ w.cell? ⟨g, 2, none⟩ = some (.map (some m2)) ∧
    w.cell? ⟨b, k * 4, none⟩ = some (.bool o.set) ∧ w.cell? ⟨b, k * 4 + 1, none⟩ = some (.int .i64 o.at_) ∧ w.cell? ⟨b, k * 4 + 3, none⟩ = some (.int .i64 o.grp) := by
  obtain ⟨A, c', e⟩ := own_form h.1.2.1
  have en : s.l.length = n := by injection e with _ e _; exact e.symm
  have hr := h.1.2.1
  rw [en] at hr
  exact ⟨h.1.1.cell 0, h.1.1.cell 1, h.1.1.cell 2, row_cell oneC_len hr ho (d := 0) rfl, row_cell oneC_len hr ho (d := 1) rfl, row_cell oneC_len hr ho (d := 3) rfl⟩
theorem LAt.at_ {B g m1 m2 N b n c k : Nat} {s : LS} {w : World} {o : One} (h : LAt B g (.slice (some ⟨b, 0, none⟩) n c) m1 m2 N s w) (ho : s.l[k]? = some o) : w.cell? ⟨b, k * 4 + 1, none⟩ = some (.int .i64 o.at_) := (h.facts ho).2.2.2.2.1
theorem fit_nat {k : Nat} (h : k ≤ 1000000) : Fit64 (k : Int) := ⟨by omega, by omega⟩
theorem fit_suc {s : LS} (hI : Inv s) {g : Int} (hg : g ≠ 0) (hl : s.l.length ≤ 1000000) : Fit64 ((s.cnt g).getD 0 + 1) := by
  have := many_le s.l g
  rw [hI.cnt g hg]
  exact ⟨by omega, by omega⟩
set_option maxHeartbeats 1000000 in
set_option maxRecDepth 100000 in
theorem trip_none_yes (B g : Nat) (v : Value) (m1 m2 N : Nat) (s : LS) (w : World) (h : LAt B g v m1 m2 N s w) (hN : N < 1000000) (hI : Inv s) (hl : s.l.length ≤ 1000000) (k : Nat) (now : Int) (o : One) (ho : s.l[k]? = some o) (hs : o.set = false) (hg : o.grp ≠ 0)
    (hsf : s.first o.grp = none) (hC : (s.cnt o.grp).getD 0 = 0) :
    Calls Try.prog 14 #[.pointer (some ⟨g, 0, none⟩), .int .i64 k, .int .i64 now] w fun e w' => e = .returned (.bool true) ∧ LAt B g v m1 m2 (N + 2) (tripped s k o now) w' ∧ Foot g v m1 m2 w w' := by
  have hk : k < s.l.length := (List.getElem?_eq_some_iff.1 ho).1
  have HLD : Hid (leads s o.grp k now) := .inl hC
  have hCb : ((s.cnt o.grp).getD 0 == 0) = true := by simp [hC]
  clear hC
  obtain ⟨b, c, e, hc⟩ := own_some h.1.2.1 hk
  subst e
  obtain ⟨c0, c1, c2, x0, x1, x3⟩ := h.facts ho
  rw [hs] at x0
  have f0 := h.1.2.1.frozenAt (k * 4)
  have f1 := h.1.2.1.frozenAt (k * 4 + 1)
  have HT := Lib.hid (h.turn ho true now)
  have H := Lib.hid h
  have hd : decide (0 ≤ (k : Int) ∧ (k : Int) < (s.l.length : Int)) = true := decide_eq_true (by omega)
  have HD := Lib.hid hd
  have hne : g ≠ b := Ne.symm (h.blk_ne rfl).1
  have HF := Lib.hid (h.2.2 o (List.mem_of_getElem? ho))
  have HOA := Lib.hid (flat_get2 s.l k o { o with set := true, at_ := now } ho)
  have hgb : (o.grp == 0) = false := by simpa using hg
  have HC := Lib.hid (fit_suc hI hg hl)
  have hC0 : 0 ≤ (s.cnt o.grp).getD 0 := by rw [hI.cnt _ hg]; omega
  have hC1 : (s.cnt o.grp).getD 0 ≤ 1000000 := by rw [hI.cnt _ hg]; have := many_le s.l o.grp; omega
  generalize hCC : (s.cnt o.grp).getD 0 = C at *
  have HCC := Lib.hid hCC
  have HSF := Lib.hid hsf
  clear h hd hI hCC hsf
  go_enter Try.func14, Try.ntmps14
  go_wp2_with fail
  refine (has_any B g _ m1 m2 N s w H.out k).mono ?_
  rintro e w1 ⟨rfl, rfl⟩
  rw [HD.out]
  go_upto_region 7 with fail
  clear c0 c1 c2 x0 x1 x3 f0 f1 H HD
  generalize ((w.setCell ⟨b, k * 4, none⟩ (.bool true)).setCell ⟨b, k * 4 + 1, none⟩ (.int .i64 now)) = wa at *
  obtain ⟨c0, c1, c2, x0, x1, x3⟩ := HT.out.1.facts HOA.out

  have l1 : ∀ n, (Instr.lookup 46 (.map (some m1)) (.int .i64 o.grp) true).run Try.prog (wa.drewN n) = .ok (.tuple #[.int .i64 0, .bool false]) (wa.drewN n) := fun n => by
    have := (HT.out.1.drewN n).1.2.2.1.look_ok HF.out
    simp only [HSF.out] at this
    exact this
  go_quiet (fail)
  have HA := Lib.hid (HT.out.1.drewN nq)
  have HFo := Lib.hid (HT.out.2.trans (Foot.drewN nq))
  clear c0 c1 c2 x0 x1 x3 l1 HT
  generalize wa.drewN nq = wb at *
  obtain ⟨c0, c1, c2, x0, x1, x3⟩ := HA.out.facts HOA.out

  have l2 : ∀ n, (Instr.lookup 46 (.map (some m2)) (.int .i64 o.grp) false).run Try.prog (wb.drewN n) = .ok (.int .i64 C) (wb.drewN n) := fun n => by
    have := (HA.out.drewN n).1.2.2.2.look HF.out
    simp only [HCC.out] at this
    exact this
  go_upto_region 8 with fail
  go_quiet (fail)
  have HB := Lib.hid (HA.out.drewN nq)
  have HFp := Lib.hid (HFo.out.trans (Foot.drewN nq))
  clear c0 c1 c2 x0 x1 x3 l2 HA HFo
  generalize wb.drewN nq = wd at *
  obtain ⟨c0, c1, c2, x0, x1, x3⟩ := HB.out.facts HOA.out
  go_upto_region 9 with fail
  go_still_tail 9, (by kernel_rfl)
  change wpList _ _ _ _ _ wd.drew
  have HE := Lib.hid HB.out.drew
  have HFq := Lib.hid (HFp.out.trans Foot.drew)
  clear c0 c1 c2 x0 x1 x3 HB HFp
  generalize wd.drew = we at *
  have HK := Lib.hid (fit_nat (k := k) (by omega))
  go_upto_region 10 with ((at_mapUpdate; refine wpList_put_at _ rfl (.tmp 91) (.tmp 95) (.tmp 96) rfl rfl HE.out.1.2.2.1 (by unfold maxLen; omega) rfl rfl HF.out HK.out ?_; intro wf hm hgr; have HG := Lib.hid (HE.out.first (by omega) hm hgr); clear hm hgr))
  have HB := Lib.hid HG.out.1
  have HFp := Lib.hid (HFq.out.trans HG.out.2)
  clear HE HFq HG HK
  obtain ⟨c0, c1, c2, x0, x1, x3⟩ := HB.out.facts HOA.out
  have l2 : (Instr.lookup 46 (.map (some m2)) (.int .i64 o.grp) false).run Try.prog wf.drew = .ok (.int .i64 C) wf.drew := by
    have := HB.out.drew.1.2.2.2.look HF.out
    simp only [HCC.out] at this
    exact this
  have l2' : (Instr.lookup 46 (.map (some m2)) (.int .i64 o.grp) false).run Try.prog wf = .ok (.int .i64 C) wf := by
    have := HB.out.1.2.2.2.look HF.out
    simp only [HCC.out] at this
    exact this
  have hw : IntKind.i64.wrap (C + 1) = C + 1 := wrap_small _ (by omega) (by omega)
  go_still_tail 10, (by kernel_rfl)
  change wpList _ _ _ _ _ wf.drew
  have HE := Lib.hid HB.out.drew
  have HFq := Lib.hid (HFp.out.trans Foot.drew)
  clear c0 c1 c2 x0 x1 x3 HB HFp l2 l2'
  generalize wf.drew = wg at *
  go_wp2_with ((at_mapUpdate; refine wpList_put_at _ rfl (.tmp 100) (.tmp 104) (.tmp 106) rfl rfl HE.out.1.2.2.2 (by unfold maxLen; omega) rfl rfl HF.out HC.out ?_; intro wh hm hgr; have HG := Lib.hid (HE.out.cnt (by omega) hm hgr); clear hm hgr))
  go_ret
  refine ⟨rfl, ?_, HFq.out.trans HG.out.2⟩
  have ht : tripped s k o now = ⟨s.l.set k { o with set := true, at_ := now }, upd s.first o.grp (some k), upd s.cnt o.grp (some (C + 1))⟩ := by
    simp only [tripped, HCC.out]
    rw [if_pos ⟨hg, HLD.out⟩, if_pos hg]
  rw [ht]
  exact HG.out.1
set_option maxHeartbeats 1000000 in
set_option maxRecDepth 100000 in
theorem trip_none_no (B g : Nat) (v : Value) (m1 m2 N : Nat) (s : LS) (w : World) (h : LAt B g v m1 m2 N s w) (hN : N < 1000000) (hI : Inv s) (hl : s.l.length ≤ 1000000) (k : Nat) (now : Int) (o : One) (ho : s.l[k]? = some o) (hs : o.set = false) (hg : o.grp ≠ 0)
    (hsf : s.first o.grp = none) (hC : (s.cnt o.grp).getD 0 ≠ 0) :
    Calls Try.prog 14 #[.pointer (some ⟨g, 0, none⟩), .int .i64 k, .int .i64 now] w fun e w' => e = .returned (.bool true) ∧ LAt B g v m1 m2 (N + 2) (tripped s k o now) w' ∧ Foot g v m1 m2 w w' := by
  have hk : k < s.l.length := (List.getElem?_eq_some_iff.1 ho).1
  have HLD : Hid (¬ leads s o.grp k now) := Lib.hid (by rw [leads_none hI hg hsf, ← Int.natCast_inj, ← hI.cnt _ hg]; exact hC)
  have hCb : ((s.cnt o.grp).getD 0 == 0) = false := by simp [hC]
  clear hC
  obtain ⟨b, c, e, hc⟩ := own_some h.1.2.1 hk
  subst e
  obtain ⟨c0, c1, c2, x0, x1, x3⟩ := h.facts ho
  rw [hs] at x0
  have f0 := h.1.2.1.frozenAt (k * 4)
  have f1 := h.1.2.1.frozenAt (k * 4 + 1)
  have HT := Lib.hid (h.turn ho true now)
  have H := Lib.hid h
  have hd : decide (0 ≤ (k : Int) ∧ (k : Int) < (s.l.length : Int)) = true := decide_eq_true (by omega)
  have HD := Lib.hid hd
  have hne : g ≠ b := Ne.symm (h.blk_ne rfl).1
  have HF := Lib.hid (h.2.2 o (List.mem_of_getElem? ho))
  have HOA := Lib.hid (flat_get2 s.l k o { o with set := true, at_ := now } ho)
  have hgb : (o.grp == 0) = false := by simpa using hg
  have HC := Lib.hid (fit_suc hI hg hl)
  have hC0 : 0 ≤ (s.cnt o.grp).getD 0 := by rw [hI.cnt _ hg]; omega
  have hC1 : (s.cnt o.grp).getD 0 ≤ 1000000 := by rw [hI.cnt _ hg]; have := many_le s.l o.grp; omega
  generalize hCC : (s.cnt o.grp).getD 0 = C at *
  have HCC := Lib.hid hCC
  have HSF := Lib.hid hsf
  clear h hd hI hCC hsf
  go_enter Try.func14, Try.ntmps14
  go_wp2_with fail
  refine (has_any B g _ m1 m2 N s w H.out k).mono ?_
  rintro e w1 ⟨rfl, rfl⟩
  rw [HD.out]
  go_upto_region 7 with fail
  clear c0 c1 c2 x0 x1 x3 f0 f1 H HD
  generalize ((w.setCell ⟨b, k * 4, none⟩ (.bool true)).setCell ⟨b, k * 4 + 1, none⟩ (.int .i64 now)) = wa at *
  obtain ⟨c0, c1, c2, x0, x1, x3⟩ := HT.out.1.facts HOA.out

  have l1 : ∀ n, (Instr.lookup 46 (.map (some m1)) (.int .i64 o.grp) true).run Try.prog (wa.drewN n) = .ok (.tuple #[.int .i64 0, .bool false]) (wa.drewN n) := fun n => by
    have := (HT.out.1.drewN n).1.2.2.1.look_ok HF.out
    simp only [HSF.out] at this
    exact this
  go_quiet (fail)
  have HA := Lib.hid (HT.out.1.drewN nq)
  have HFo := Lib.hid (HT.out.2.trans (Foot.drewN nq))
  clear c0 c1 c2 x0 x1 x3 l1 HT
  generalize wa.drewN nq = wb at *
  obtain ⟨c0, c1, c2, x0, x1, x3⟩ := HA.out.facts HOA.out

  have l2 : ∀ n, (Instr.lookup 46 (.map (some m2)) (.int .i64 o.grp) false).run Try.prog (wb.drewN n) = .ok (.int .i64 C) (wb.drewN n) := fun n => by
    have := (HA.out.drewN n).1.2.2.2.look HF.out
    simp only [HCC.out] at this
    exact this
  go_upto_region 8 with fail
  go_quiet (fail)
  have HB := Lib.hid (HA.out.drewN nq)
  have HFp := Lib.hid (HFo.out.trans (Foot.drewN nq))
  clear c0 c1 c2 x0 x1 x3 l2 HA HFo
  generalize wb.drewN nq = wd at *
  go_upto_region 10 with fail
  obtain ⟨c0, c1, c2, x0, x1, x3⟩ := HB.out.facts HOA.out
  have l2 : (Instr.lookup 46 (.map (some m2)) (.int .i64 o.grp) false).run Try.prog wd.drew = .ok (.int .i64 C) wd.drew := by
    have := HB.out.drew.1.2.2.2.look HF.out
    simp only [HCC.out] at this
    exact this
  have l2' : (Instr.lookup 46 (.map (some m2)) (.int .i64 o.grp) false).run Try.prog wd = .ok (.int .i64 C) wd := by
    have := HB.out.1.2.2.2.look HF.out
    simp only [HCC.out] at this
    exact this
  have hw : IntKind.i64.wrap (C + 1) = C + 1 := wrap_small _ (by omega) (by omega)
  go_still_tail 10, (by kernel_rfl)
  change wpList _ _ _ _ _ wd.drew
  have HE := Lib.hid HB.out.drew
  have HFq := Lib.hid (HFp.out.trans Foot.drew)
  clear c0 c1 c2 x0 x1 x3 HB HFp l2 l2'
  generalize wd.drew = wg at *
  go_wp2_with ((at_mapUpdate; refine wpList_put_at _ rfl (.tmp 100) (.tmp 104) (.tmp 106) rfl rfl HE.out.1.2.2.2 (by unfold maxLen; omega) rfl rfl HF.out HC.out ?_; intro wh hm hgr; have HG := Lib.hid (HE.out.cnt (by omega) hm hgr); clear hm hgr))
  go_ret
  refine ⟨rfl, ?_, HFq.out.trans HG.out.2⟩
  have ht : tripped s k o now = ⟨s.l.set k { o with set := true, at_ := now }, s.first, upd s.cnt o.grp (some (C + 1))⟩ := by
    simp only [tripped, HCC.out]
    rw [if_neg (fun h => HLD.out h.2), if_pos hg]
  rw [ht]
  exact HG.out.1.mono (by omega)
set_option maxHeartbeats 1000000 in
set_option maxRecDepth 100000 in
theorem trip_some_yes (B g : Nat) (v : Value) (m1 m2 N : Nat) (s : LS) (w : World) (h : LAt B g v m1 m2 N s w) (hN : N < 1000000) (hI : Inv s) (hl : s.l.length ≤ 1000000) (k : Nat) (now : Int) (o : One) (ho : s.l[k]? = some o) (hs : o.set = false) (hg : o.grp ≠ 0)
    (fn : Nat) (oF : One) (hsf : s.first o.grp = some (fn : Int)) (hof : s.l[fn]? = some oF) (hat : oF.at_ = now) (hkf : (k : Int) < (fn : Int)) :
    Calls Try.prog 14 #[.pointer (some ⟨g, 0, none⟩), .int .i64 k, .int .i64 now] w fun e w' => e = .returned (.bool true) ∧ LAt B g v m1 m2 (N + 2) (tripped s k o now) w' ∧ Foot g v m1 m2 w w' := by
  have hk : k < s.l.length := (List.getElem?_eq_some_iff.1 ho).1
  have hC : (s.cnt o.grp).getD 0 ≠ 0 := by
    obtain ⟨_, _, o', ho', hs', hg'⟩ := hI.first _ _ hsf
    have := many_pos ho' hs' hg'
    rw [hI.cnt _ hg]; omega
  have hCb : ((s.cnt o.grp).getD 0 == 0) = false := by simp [hC]
  clear hC
  have hfk : k ≠ fn := by
    rintro rfl
    rw [ho] at hof
    injection hof with e
    rw [e] at hs
    obtain ⟨_, _, o', ho', hs', hg'⟩ := hI.first _ _ hsf
    rw [Int.toNat_natCast, ho] at ho'
    injection ho' with e'
    rw [← e', e, hs] at hs'
    cases hs'
  have HOF : Hid ((s.l.set k { o with set := true, at_ := now })[fn]? = some oF) := Lib.hid (by rw [List.getElem?_set_ne hfk]; exact hof)
  have hfl : fn < s.l.length := (List.getElem?_eq_some_iff.1 hof).1
  have HLD : Hid (leads s o.grp k now) := Lib.hid ((leads_some hI hsf (by simpa using hof) k now).2 ⟨hat, hkf⟩)
  have hatb : (oF.at_ == now) = true := by simp [hat]
  clear hof hat
  obtain ⟨b, c, e, hc⟩ := own_some h.1.2.1 hk
  subst e
  obtain ⟨c0, c1, c2, x0, x1, x3⟩ := h.facts ho
  rw [hs] at x0
  have f0 := h.1.2.1.frozenAt (k * 4)
  have f1 := h.1.2.1.frozenAt (k * 4 + 1)
  have HT := Lib.hid (h.turn ho true now)
  have H := Lib.hid h
  have hd : decide (0 ≤ (k : Int) ∧ (k : Int) < (s.l.length : Int)) = true := decide_eq_true (by omega)
  have HD := Lib.hid hd
  have hne : g ≠ b := Ne.symm (h.blk_ne rfl).1
  have HF := Lib.hid (h.2.2 o (List.mem_of_getElem? ho))
  have HOA := Lib.hid (flat_get2 s.l k o { o with set := true, at_ := now } ho)
  have hgb : (o.grp == 0) = false := by simpa using hg
  have HC := Lib.hid (fit_suc hI hg hl)
  have hC0 : 0 ≤ (s.cnt o.grp).getD 0 := by rw [hI.cnt _ hg]; omega
  have hC1 : (s.cnt o.grp).getD 0 ≤ 1000000 := by rw [hI.cnt _ hg]; have := many_le s.l o.grp; omega
  generalize hCC : (s.cnt o.grp).getD 0 = C at *
  have HCC := Lib.hid hCC
  have HSF := Lib.hid hsf
  clear h hd hI hCC hsf
  go_enter Try.func14, Try.ntmps14
  go_wp2_with fail
  refine (has_any B g _ m1 m2 N s w H.out k).mono ?_
  rintro e w1 ⟨rfl, rfl⟩
  rw [HD.out]
  go_upto_region 7 with fail
  clear c0 c1 c2 x0 x1 x3 f0 f1 H HD
  generalize ((w.setCell ⟨b, k * 4, none⟩ (.bool true)).setCell ⟨b, k * 4 + 1, none⟩ (.int .i64 now)) = wa at *
  obtain ⟨c0, c1, c2, x0, x1, x3⟩ := HT.out.1.facts HOA.out
  have xf := HT.out.1.at_ HOF.out
  have l1 : ∀ n, (Instr.lookup 46 (.map (some m1)) (.int .i64 o.grp) true).run Try.prog (wa.drewN n) = .ok (.tuple #[.int .i64 fn, .bool true]) (wa.drewN n) := fun n => by
    have := (HT.out.1.drewN n).1.2.2.1.look_ok HF.out
    simp only [HSF.out] at this
    exact this
  go_quiet (fail)
  have HA := Lib.hid (HT.out.1.drewN nq)
  have HFo := Lib.hid (HT.out.2.trans (Foot.drewN nq))
  clear c0 c1 c2 x0 x1 x3 l1 HT xf
  generalize wa.drewN nq = wb at *
  obtain ⟨c0, c1, c2, x0, x1, x3⟩ := HA.out.facts HOA.out
  have xf := HA.out.at_ HOF.out
  have l2 : ∀ n, (Instr.lookup 46 (.map (some m2)) (.int .i64 o.grp) false).run Try.prog (wb.drewN n) = .ok (.int .i64 C) (wb.drewN n) := fun n => by
    have := (HA.out.drewN n).1.2.2.2.look HF.out
    simp only [HCC.out] at this
    exact this
  go_upto_region 8 with fail
  go_quiet (fail)
  have HB := Lib.hid (HA.out.drewN nq)
  have HFp := Lib.hid (HFo.out.trans (Foot.drewN nq))
  clear c0 c1 c2 x0 x1 x3 l2 HA HFo xf
  generalize wb.drewN nq = wd at *
  obtain ⟨c0, c1, c2, x0, x1, x3⟩ := HB.out.facts HOA.out
  go_upto_region 9 with fail
  go_still_tail 9, (by kernel_rfl)
  change wpList _ _ _ _ _ wd.drew
  have HE := Lib.hid HB.out.drew
  have HFq := Lib.hid (HFp.out.trans Foot.drew)
  clear c0 c1 c2 x0 x1 x3 HB HFp
  generalize wd.drew = we at *
  have HK := Lib.hid (fit_nat (k := k) (by omega))
  go_upto_region 10 with ((at_mapUpdate; refine wpList_put_at _ rfl (.tmp 91) (.tmp 95) (.tmp 96) rfl rfl HE.out.1.2.2.1 (by unfold maxLen; omega) rfl rfl HF.out HK.out ?_; intro wf hm hgr; have HG := Lib.hid (HE.out.first (by omega) hm hgr); clear hm hgr))
  have HB := Lib.hid HG.out.1
  have HFp := Lib.hid (HFq.out.trans HG.out.2)
  clear HE HFq HG HK
  obtain ⟨c0, c1, c2, x0, x1, x3⟩ := HB.out.facts HOA.out
  have l2 : (Instr.lookup 46 (.map (some m2)) (.int .i64 o.grp) false).run Try.prog wf.drew = .ok (.int .i64 C) wf.drew := by
    have := HB.out.drew.1.2.2.2.look HF.out
    simp only [HCC.out] at this
    exact this
  have l2' : (Instr.lookup 46 (.map (some m2)) (.int .i64 o.grp) false).run Try.prog wf = .ok (.int .i64 C) wf := by
    have := HB.out.1.2.2.2.look HF.out
    simp only [HCC.out] at this
    exact this
  have hw : IntKind.i64.wrap (C + 1) = C + 1 := wrap_small _ (by omega) (by omega)
  go_still_tail 10, (by kernel_rfl)
  change wpList _ _ _ _ _ wf.drew
  have HE := Lib.hid HB.out.drew
  have HFq := Lib.hid (HFp.out.trans Foot.drew)
  clear c0 c1 c2 x0 x1 x3 HB HFp l2 l2'
  generalize wf.drew = wg at *
  go_wp2_with ((at_mapUpdate; refine wpList_put_at _ rfl (.tmp 100) (.tmp 104) (.tmp 106) rfl rfl HE.out.1.2.2.2 (by unfold maxLen; omega) rfl rfl HF.out HC.out ?_; intro wh hm hgr; have HG := Lib.hid (HE.out.cnt (by omega) hm hgr); clear hm hgr))
  go_ret
  refine ⟨rfl, ?_, HFq.out.trans HG.out.2⟩
  have ht : tripped s k o now = ⟨s.l.set k { o with set := true, at_ := now }, upd s.first o.grp (some k), upd s.cnt o.grp (some (C + 1))⟩ := by
    simp only [tripped, HCC.out]
    rw [if_pos ⟨hg, HLD.out⟩, if_pos hg]
  rw [ht]
  exact HG.out.1
set_option maxHeartbeats 1000000 in
set_option maxRecDepth 100000 in
theorem trip_some_no1 (B g : Nat) (v : Value) (m1 m2 N : Nat) (s : LS) (w : World) (h : LAt B g v m1 m2 N s w) (hN : N < 1000000) (hI : Inv s) (hl : s.l.length ≤ 1000000) (k : Nat) (now : Int) (o : One) (ho : s.l[k]? = some o) (hs : o.set = false) (hg : o.grp ≠ 0)
    (fn : Nat) (oF : One) (hsf : s.first o.grp = some (fn : Int)) (hof : s.l[fn]? = some oF) (hat : oF.at_ = now) (hkf : (fn : Int) ≤ (k : Int)) :
    Calls Try.prog 14 #[.pointer (some ⟨g, 0, none⟩), .int .i64 k, .int .i64 now] w fun e w' => e = .returned (.bool true) ∧ LAt B g v m1 m2 (N + 2) (tripped s k o now) w' ∧ Foot g v m1 m2 w w' := by
  have hk : k < s.l.length := (List.getElem?_eq_some_iff.1 ho).1
  have hC : (s.cnt o.grp).getD 0 ≠ 0 := by
    obtain ⟨_, _, o', ho', hs', hg'⟩ := hI.first _ _ hsf
    have := many_pos ho' hs' hg'
    rw [hI.cnt _ hg]; omega
  have hCb : ((s.cnt o.grp).getD 0 == 0) = false := by simp [hC]
  clear hC
  have hfk : k ≠ fn := by
    rintro rfl
    rw [ho] at hof
    injection hof with e
    rw [e] at hs
    obtain ⟨_, _, o', ho', hs', hg'⟩ := hI.first _ _ hsf
    rw [Int.toNat_natCast, ho] at ho'
    injection ho' with e'
    rw [← e', e, hs] at hs'
    cases hs'
  have HOF : Hid ((s.l.set k { o with set := true, at_ := now })[fn]? = some oF) := Lib.hid (by rw [List.getElem?_set_ne hfk]; exact hof)
  have hfl : fn < s.l.length := (List.getElem?_eq_some_iff.1 hof).1
  have HLD : Hid (¬ leads s o.grp k now) := Lib.hid (fun h => by have := ((leads_some hI hsf (by simpa using hof) k now).1 h).2; omega)
  have hatb : (oF.at_ == now) = true := by simp [hat]
  clear hof hat
  obtain ⟨b, c, e, hc⟩ := own_some h.1.2.1 hk
  subst e
  obtain ⟨c0, c1, c2, x0, x1, x3⟩ := h.facts ho
  rw [hs] at x0
  have f0 := h.1.2.1.frozenAt (k * 4)
  have f1 := h.1.2.1.frozenAt (k * 4 + 1)
  have HT := Lib.hid (h.turn ho true now)
  have H := Lib.hid h
  have hd : decide (0 ≤ (k : Int) ∧ (k : Int) < (s.l.length : Int)) = true := decide_eq_true (by omega)
  have HD := Lib.hid hd
  have hne : g ≠ b := Ne.symm (h.blk_ne rfl).1
  have HF := Lib.hid (h.2.2 o (List.mem_of_getElem? ho))
  have HOA := Lib.hid (flat_get2 s.l k o { o with set := true, at_ := now } ho)
  have hgb : (o.grp == 0) = false := by simpa using hg
  have HC := Lib.hid (fit_suc hI hg hl)
  have hC0 : 0 ≤ (s.cnt o.grp).getD 0 := by rw [hI.cnt _ hg]; omega
  have hC1 : (s.cnt o.grp).getD 0 ≤ 1000000 := by rw [hI.cnt _ hg]; have := many_le s.l o.grp; omega
  generalize hCC : (s.cnt o.grp).getD 0 = C at *
  have HCC := Lib.hid hCC
  have HSF := Lib.hid hsf
  clear h hd hI hCC hsf
  go_enter Try.func14, Try.ntmps14
  go_wp2_with fail
  refine (has_any B g _ m1 m2 N s w H.out k).mono ?_
  rintro e w1 ⟨rfl, rfl⟩
  rw [HD.out]
  go_upto_region 7 with fail
  clear c0 c1 c2 x0 x1 x3 f0 f1 H HD
  generalize ((w.setCell ⟨b, k * 4, none⟩ (.bool true)).setCell ⟨b, k * 4 + 1, none⟩ (.int .i64 now)) = wa at *
  obtain ⟨c0, c1, c2, x0, x1, x3⟩ := HT.out.1.facts HOA.out
  have xf := HT.out.1.at_ HOF.out
  have l1 : ∀ n, (Instr.lookup 46 (.map (some m1)) (.int .i64 o.grp) true).run Try.prog (wa.drewN n) = .ok (.tuple #[.int .i64 fn, .bool true]) (wa.drewN n) := fun n => by
    have := (HT.out.1.drewN n).1.2.2.1.look_ok HF.out
    simp only [HSF.out] at this
    exact this
  go_quiet (fail)
  have HA := Lib.hid (HT.out.1.drewN nq)
  have HFo := Lib.hid (HT.out.2.trans (Foot.drewN nq))
  clear c0 c1 c2 x0 x1 x3 l1 HT xf
  generalize wa.drewN nq = wb at *
  obtain ⟨c0, c1, c2, x0, x1, x3⟩ := HA.out.facts HOA.out
  have xf := HA.out.at_ HOF.out
  have l2 : ∀ n, (Instr.lookup 46 (.map (some m2)) (.int .i64 o.grp) false).run Try.prog (wb.drewN n) = .ok (.int .i64 C) (wb.drewN n) := fun n => by
    have := (HA.out.drewN n).1.2.2.2.look HF.out
    simp only [HCC.out] at this
    exact this
  go_upto_region 8 with fail
  go_quiet (fail)
  have HB := Lib.hid (HA.out.drewN nq)
  have HFp := Lib.hid (HFo.out.trans (Foot.drewN nq))
  clear c0 c1 c2 x0 x1 x3 l2 HA HFo xf
  generalize wb.drewN nq = wd at *
  go_upto_region 10 with fail
  obtain ⟨c0, c1, c2, x0, x1, x3⟩ := HB.out.facts HOA.out
  have l2 : (Instr.lookup 46 (.map (some m2)) (.int .i64 o.grp) false).run Try.prog wd.drew = .ok (.int .i64 C) wd.drew := by
    have := HB.out.drew.1.2.2.2.look HF.out
    simp only [HCC.out] at this
    exact this
  have l2' : (Instr.lookup 46 (.map (some m2)) (.int .i64 o.grp) false).run Try.prog wd = .ok (.int .i64 C) wd := by
    have := HB.out.1.2.2.2.look HF.out
    simp only [HCC.out] at this
    exact this
  have hw : IntKind.i64.wrap (C + 1) = C + 1 := wrap_small _ (by omega) (by omega)
  go_still_tail 10, (by kernel_rfl)
  change wpList _ _ _ _ _ wd.drew
  have HE := Lib.hid HB.out.drew
  have HFq := Lib.hid (HFp.out.trans Foot.drew)
  clear c0 c1 c2 x0 x1 x3 HB HFp l2 l2'
  generalize wd.drew = wg at *
  go_wp2_with ((at_mapUpdate; refine wpList_put_at _ rfl (.tmp 100) (.tmp 104) (.tmp 106) rfl rfl HE.out.1.2.2.2 (by unfold maxLen; omega) rfl rfl HF.out HC.out ?_; intro wh hm hgr; have HG := Lib.hid (HE.out.cnt (by omega) hm hgr); clear hm hgr))
  go_ret
  refine ⟨rfl, ?_, HFq.out.trans HG.out.2⟩
  have ht : tripped s k o now = ⟨s.l.set k { o with set := true, at_ := now }, s.first, upd s.cnt o.grp (some (C + 1))⟩ := by
    simp only [tripped, HCC.out]
    rw [if_neg (fun h => HLD.out h.2), if_pos hg]
  rw [ht]
  exact HG.out.1.mono (by omega)
set_option maxHeartbeats 1000000 in
set_option maxRecDepth 100000 in
theorem trip_some_no2 (B g : Nat) (v : Value) (m1 m2 N : Nat) (s : LS) (w : World) (h : LAt B g v m1 m2 N s w) (hN : N < 1000000) (hI : Inv s) (hl : s.l.length ≤ 1000000) (k : Nat) (now : Int) (o : One) (ho : s.l[k]? = some o) (hs : o.set = false) (hg : o.grp ≠ 0)
    (fn : Nat) (oF : One) (hsf : s.first o.grp = some (fn : Int)) (hof : s.l[fn]? = some oF) (hat : oF.at_ ≠ now) :
    Calls Try.prog 14 #[.pointer (some ⟨g, 0, none⟩), .int .i64 k, .int .i64 now] w fun e w' => e = .returned (.bool true) ∧ LAt B g v m1 m2 (N + 2) (tripped s k o now) w' ∧ Foot g v m1 m2 w w' := by
  have hk : k < s.l.length := (List.getElem?_eq_some_iff.1 ho).1
  have hC : (s.cnt o.grp).getD 0 ≠ 0 := by
    obtain ⟨_, _, o', ho', hs', hg'⟩ := hI.first _ _ hsf
    have := many_pos ho' hs' hg'
    rw [hI.cnt _ hg]; omega
  have hCb : ((s.cnt o.grp).getD 0 == 0) = false := by simp [hC]
  clear hC
  have hfk : k ≠ fn := by
    rintro rfl
    rw [ho] at hof
    injection hof with e
    rw [e] at hs
    obtain ⟨_, _, o', ho', hs', hg'⟩ := hI.first _ _ hsf
    rw [Int.toNat_natCast, ho] at ho'
    injection ho' with e'
    rw [← e', e, hs] at hs'
    cases hs'
  have HOF : Hid ((s.l.set k { o with set := true, at_ := now })[fn]? = some oF) := Lib.hid (by rw [List.getElem?_set_ne hfk]; exact hof)
  have hfl : fn < s.l.length := (List.getElem?_eq_some_iff.1 hof).1
  have HLD : Hid (¬ leads s o.grp k now) := Lib.hid (fun h => hat ((leads_some hI hsf (by simpa using hof) k now).1 h).1)
  have hatb : (oF.at_ == now) = false := by simp [hat]
  clear hof hat
  obtain ⟨b, c, e, hc⟩ := own_some h.1.2.1 hk
  subst e
  obtain ⟨c0, c1, c2, x0, x1, x3⟩ := h.facts ho
  rw [hs] at x0
  have f0 := h.1.2.1.frozenAt (k * 4)
  have f1 := h.1.2.1.frozenAt (k * 4 + 1)
  have HT := Lib.hid (h.turn ho true now)
  have H := Lib.hid h
  have hd : decide (0 ≤ (k : Int) ∧ (k : Int) < (s.l.length : Int)) = true := decide_eq_true (by omega)
  have HD := Lib.hid hd
  have hne : g ≠ b := Ne.symm (h.blk_ne rfl).1
  have HF := Lib.hid (h.2.2 o (List.mem_of_getElem? ho))
  have HOA := Lib.hid (flat_get2 s.l k o { o with set := true, at_ := now } ho)
  have hgb : (o.grp == 0) = false := by simpa using hg
  have HC := Lib.hid (fit_suc hI hg hl)
  have hC0 : 0 ≤ (s.cnt o.grp).getD 0 := by rw [hI.cnt _ hg]; omega
  have hC1 : (s.cnt o.grp).getD 0 ≤ 1000000 := by rw [hI.cnt _ hg]; have := many_le s.l o.grp; omega
  generalize hCC : (s.cnt o.grp).getD 0 = C at *
  have HCC := Lib.hid hCC
  have HSF := Lib.hid hsf
  clear h hd hI hCC hsf
  go_enter Try.func14, Try.ntmps14
  go_wp2_with fail
  refine (has_any B g _ m1 m2 N s w H.out k).mono ?_
  rintro e w1 ⟨rfl, rfl⟩
  rw [HD.out]
  go_upto_region 7 with fail
  clear c0 c1 c2 x0 x1 x3 f0 f1 H HD
  generalize ((w.setCell ⟨b, k * 4, none⟩ (.bool true)).setCell ⟨b, k * 4 + 1, none⟩ (.int .i64 now)) = wa at *
  obtain ⟨c0, c1, c2, x0, x1, x3⟩ := HT.out.1.facts HOA.out
  have xf := HT.out.1.at_ HOF.out
  have l1 : ∀ n, (Instr.lookup 46 (.map (some m1)) (.int .i64 o.grp) true).run Try.prog (wa.drewN n) = .ok (.tuple #[.int .i64 fn, .bool true]) (wa.drewN n) := fun n => by
    have := (HT.out.1.drewN n).1.2.2.1.look_ok HF.out
    simp only [HSF.out] at this
    exact this
  go_quiet (fail)
  have HA := Lib.hid (HT.out.1.drewN nq)
  have HFo := Lib.hid (HT.out.2.trans (Foot.drewN nq))
  clear c0 c1 c2 x0 x1 x3 l1 HT xf
  generalize wa.drewN nq = wb at *
  obtain ⟨c0, c1, c2, x0, x1, x3⟩ := HA.out.facts HOA.out
  have xf := HA.out.at_ HOF.out
  have l2 : ∀ n, (Instr.lookup 46 (.map (some m2)) (.int .i64 o.grp) false).run Try.prog (wb.drewN n) = .ok (.int .i64 C) (wb.drewN n) := fun n => by
    have := (HA.out.drewN n).1.2.2.2.look HF.out
    simp only [HCC.out] at this
    exact this
  go_upto_region 8 with fail
  go_quiet (fail)
  have HB := Lib.hid (HA.out.drewN nq)
  have HFp := Lib.hid (HFo.out.trans (Foot.drewN nq))
  clear c0 c1 c2 x0 x1 x3 l2 HA HFo xf
  generalize wb.drewN nq = wd at *
  go_upto_region 10 with fail
  obtain ⟨c0, c1, c2, x0, x1, x3⟩ := HB.out.facts HOA.out
  have l2 : (Instr.lookup 46 (.map (some m2)) (.int .i64 o.grp) false).run Try.prog wd.drew = .ok (.int .i64 C) wd.drew := by
    have := HB.out.drew.1.2.2.2.look HF.out
    simp only [HCC.out] at this
    exact this
  have l2' : (Instr.lookup 46 (.map (some m2)) (.int .i64 o.grp) false).run Try.prog wd = .ok (.int .i64 C) wd := by
    have := HB.out.1.2.2.2.look HF.out
    simp only [HCC.out] at this
    exact this
  have hw : IntKind.i64.wrap (C + 1) = C + 1 := wrap_small _ (by omega) (by omega)
  go_still_tail 10, (by kernel_rfl)
  change wpList _ _ _ _ _ wd.drew
  have HE := Lib.hid HB.out.drew
  have HFq := Lib.hid (HFp.out.trans Foot.drew)
  clear c0 c1 c2 x0 x1 x3 HB HFp l2 l2'
  generalize wd.drew = wg at *
  go_wp2_with ((at_mapUpdate; refine wpList_put_at _ rfl (.tmp 100) (.tmp 104) (.tmp 106) rfl rfl HE.out.1.2.2.2 (by unfold maxLen; omega) rfl rfl HF.out HC.out ?_; intro wh hm hgr; have HG := Lib.hid (HE.out.cnt (by omega) hm hgr); clear hm hgr))
  go_ret
  refine ⟨rfl, ?_, HFq.out.trans HG.out.2⟩
  have ht : tripped s k o now = ⟨s.l.set k { o with set := true, at_ := now }, s.first, upd s.cnt o.grp (some (C + 1))⟩ := by
    simp only [tripped, HCC.out]
    rw [if_neg (fun h => HLD.out h.2), if_pos hg]
  rw [ht]
  exact HG.out.1.mono (by omega)
end Go.Proofs.Ytcaobjmngdlklaa
