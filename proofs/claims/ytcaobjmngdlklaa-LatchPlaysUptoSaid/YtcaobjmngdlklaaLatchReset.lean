/-
  Reset, walked.
-/
import Derived.Test.YtcaobjmngdlklaaLatchTripG
namespace Go.Proofs.Ytcaobjmngdlklaa
open Go.RowKit
theorem upd_upd (f : Int → Option Int) (k : Int) (a b : Option Int) : upd (upd f k a) k b = upd f k b := by
  funext x
  unfold upd
  by_cases h : x = k <;> simp [h]
theorem fit_pred {s : LS} (hI : Inv s) {g : Int} (hg : g ≠ 0) (hl : s.l.length ≤ 1000000) : Fit64 ((s.cnt g).getD 0 - 1) := by
  have := many_le s.l g
  rw [hI.cnt g hg]
  exact ⟨by omega, by omega⟩
set_option maxRecDepth 100000 in
theorem reset_out (B g : Nat) (v : Value) (m1 m2 N : Nat) (s : LS) (w : World) (h : LAt B g v m1 m2 N s w) (i : Int) (hi : ¬ (0 ≤ i ∧ i < s.l.length)) :
    Calls Try.prog 10 #[.pointer (some ⟨g, 0, none⟩), .int .i64 i] w fun e w' => e = .returned (.bool false) ∧ w = w' := by
  have H := Lib.hid h
  have hd : decide (0 ≤ i ∧ i < (s.l.length : Int)) = false := decide_eq_false hi
  have HD := Lib.hid hd
  clear h hd hi
  go_enter Try.func10, Try.ntmps10
  go_wp2_with fail
  refine (has_any B g v m1 m2 N s w H.out i).mono ?_
  rintro e w1 ⟨rfl, rfl⟩
  rw [HD.out]
  go_wp2_with fail
  go_ret
  exact ⟨rfl, rfl⟩
set_option maxRecDepth 100000 in
theorem reset_clear (B g : Nat) (v : Value) (m1 m2 N : Nat) (s : LS) (w : World) (h : LAt B g v m1 m2 N s w) (k : Nat) (o : One) (ho : s.l[k]? = some o) (hs : o.set = false) :
    Calls Try.prog 10 #[.pointer (some ⟨g, 0, none⟩), .int .i64 k] w fun e w' => e = .returned (.bool false) ∧ w = w' := by
  have hk : k < s.l.length := (List.getElem?_eq_some_iff.1 ho).1
  obtain ⟨b, c, e, hc⟩ := own_some h.1.2.1 hk
  subst e
  obtain ⟨c0, c1, c2, x0, x1, x3⟩ := h.facts ho
  rw [hs] at x0
  have H := Lib.hid h
  have hd : decide (0 ≤ (k : Int) ∧ (k : Int) < (s.l.length : Int)) = true := decide_eq_true (by omega)
  have HD := Lib.hid hd
  clear h hd
  go_enter Try.func10, Try.ntmps10
  go_wp2_with fail
  refine (has_any B g _ m1 m2 N s w H.out k).mono ?_
  rintro e w1 ⟨rfl, rfl⟩
  rw [HD.out]
  go_wp2_with fail
  go_ret
  exact ⟨rfl, rfl⟩
set_option maxRecDepth 100000 in
theorem reset_zero (B g : Nat) (v : Value) (m1 m2 N : Nat) (s : LS) (w : World) (h : LAt B g v m1 m2 N s w) (k : Nat) (o : One) (ho : s.l[k]? = some o) (hs : o.set = true) (hg : o.grp = 0) :
    Calls Try.prog 10 #[.pointer (some ⟨g, 0, none⟩), .int .i64 k] w fun e w' => e = .returned (.bool true) ∧ LAt B g v m1 m2 (N + 2) (cleared s k o) w' ∧ Foot g v m1 m2 w w' := by
  have hk : k < s.l.length := (List.getElem?_eq_some_iff.1 ho).1
  have ht : cleared s k o = ⟨s.l.set k { o with set := false, at_ := 0 }, s.first, s.cnt⟩ := by
    simp only [cleared]
    rw [if_neg (fun h => h.1 hg), if_neg (fun h => h hg)]
  rw [ht]
  clear ht
  obtain ⟨b, c, e, hc⟩ := own_some h.1.2.1 hk
  subst e
  obtain ⟨c0, c1, c2, x0, x1, x3⟩ := h.facts ho
  rw [hs] at x0
  rw [hg] at x3
  have f0 := h.1.2.1.frozenAt (k * 4)
  have f1 := h.1.2.1.frozenAt (k * 4 + 1)
  have HT := Lib.hid (h.turn ho false 0)
  have H := Lib.hid h
  have hd : decide (0 ≤ (k : Int) ∧ (k : Int) < (s.l.length : Int)) = true := decide_eq_true (by omega)
  have HD := Lib.hid hd
  have hne : g ≠ b := Ne.symm (h.blk_ne rfl).1
  clear h hd
  go_enter Try.func10, Try.ntmps10
  go_wp2_with fail
  refine (has_any B g _ m1 m2 N s w H.out k).mono ?_
  rintro e w1 ⟨rfl, rfl⟩
  rw [HD.out]
  go_wp2_with fail
  go_ret
  exact ⟨rfl, HT.out.1.mono (by omega), HT.out.2⟩
set_option maxHeartbeats 1000000 in
set_option maxRecDepth 100000 in
theorem reset_yes_last (B g : Nat) (v : Value) (m1 m2 N : Nat) (s : LS) (w : World) (h : LAt B g v m1 m2 N s w) (hN : N < 1000000) (hI : Inv s) (hl : s.l.length ≤ 1000000) (k : Nat) (o : One) (ho : s.l[k]? = some o) (hs : o.set = true) (hg : o.grp ≠ 0)
    (hsf : s.first o.grp = some (k : Int)) (hC : (s.cnt o.grp).getD 0 = 1) :
    Calls Try.prog 10 #[.pointer (some ⟨g, 0, none⟩), .int .i64 k] w fun e w' => e = .returned (.bool true) ∧ LAt B g v m1 m2 (N + 2) (cleared s k o) w' ∧ Foot g v m1 m2 w w' := by
  have hk : k < s.l.length := (List.getElem?_eq_some_iff.1 ho).1
  have HFK : Hid (s.first o.grp = some (k : Int)) := Lib.hid (by exact hsf)
  obtain ⟨b, c, e, hc⟩ := own_some h.1.2.1 hk
  subst e
  obtain ⟨c0, c1, c2, x0, x1, x3⟩ := h.facts ho
  rw [hs] at x0
  have f0 := h.1.2.1.frozenAt (k * 4)
  have f1 := h.1.2.1.frozenAt (k * 4 + 1)
  have HT := Lib.hid (h.turn ho false 0)
  have H := Lib.hid h
  have hd : decide (0 ≤ (k : Int) ∧ (k : Int) < (s.l.length : Int)) = true := decide_eq_true (by omega)
  have HD := Lib.hid hd
  have hne : g ≠ b := Ne.symm (h.blk_ne rfl).1
  have HF := Lib.hid (h.2.2 o (List.mem_of_getElem? ho))
  have HOA := Lib.hid (flat_get2 s.l k o { o with set := false, at_ := 0 } ho)
  have hgb : (o.grp == 0) = false := by simpa using hg
  have HC := Lib.hid (fit_pred hI hg hl)
  have hC0 : 1 ≤ (s.cnt o.grp).getD 0 := by rw [hI.cnt _ hg]; have := many_pos ho hs rfl; omega
  have hC1 : (s.cnt o.grp).getD 0 ≤ 1000000 := by rw [hI.cnt _ hg]; have := many_le s.l o.grp; omega
  generalize hCC : (s.cnt o.grp).getD 0 = C at *
  have hz : (C - 1 == 0) = true := by simp; omega
  have hcz : (C - 1 = 0) := by omega
  have HCZ := Lib.hid hcz
  clear hC hcz
  have HCC := Lib.hid hCC
  have HSF := Lib.hid hsf
  clear h hd hI hCC hsf
  go_enter Try.func10, Try.ntmps10
  go_wp2_with fail
  refine (has_any B g _ m1 m2 N s w H.out k).mono ?_
  rintro e w1 ⟨rfl, rfl⟩
  rw [HD.out]
  go_upto_region 7 with fail
  clear c0 c1 c2 x0 x1 x3 f0 f1 H HD
  generalize ((w.setCell ⟨b, k * 4, none⟩ (.bool false)).setCell ⟨b, k * 4 + 1, none⟩ (.int .i64 0)) = wa at *
  obtain ⟨c0, c1, c2, x0, x1, x3⟩ := HT.out.1.facts HOA.out
  have l1 : ∀ n, (Instr.lookup 46 (.map (some m1)) (.int .i64 o.grp) true).run Try.prog (wa.drewN n) = .ok (.tuple #[.int .i64 k, .bool true]) (wa.drewN n) := fun n => by
    have := (HT.out.1.drewN n).1.2.2.1.look_ok HF.out
    simp only [HSF.out] at this
    exact this
  go_quiet (fail)
  have HB := Lib.hid (HT.out.1.drewN nq)
  have HFp := Lib.hid (HT.out.2.trans (Foot.drewN nq))
  clear c0 c1 c2 x0 x1 x3 l1 HT
  generalize wa.drewN nq = wd at *
  obtain ⟨c0, c1, c2, x0, x1, x3⟩ := HB.out.facts HOA.out
  go_upto_region 9 with fail
  go_still_tail 8, (by kernel_rfl)
  change wpList _ _ _ _ _ wd.drew
  have HE := Lib.hid HB.out.drew
  have HFq := Lib.hid (HFp.out.trans Foot.drew)
  clear c0 c1 c2 x0 x1 x3 HB HFp
  generalize wd.drew = we at *
  go_upto_region 10 with ((at_delete; refine wpList_del_at _ rfl (.tmp 64) (.tmp 68) rfl rfl HE.out.1.2.2.1 rfl HF.out ?_; intro wf hm hgr; have HG := Lib.hid (HE.out.first (Nat.le_refl _) hm hgr); clear hm hgr))
  have HB := Lib.hid HG.out.1
  have HFp := Lib.hid (HFq.out.trans HG.out.2)
  clear HE HFq HG
  obtain ⟨c0, c1, c2, x0, x1, x3⟩ := HB.out.facts HOA.out
  have l2 : (Instr.lookup 46 (.map (some m2)) (.int .i64 o.grp) false).run Try.prog wf.drew = .ok (.int .i64 C) wf.drew := by
    have := HB.out.drew.1.2.2.2.look HF.out
    simp only [HCC.out] at this
    exact this
  have l2' : (Instr.lookup 46 (.map (some m2)) (.int .i64 o.grp) false).run Try.prog wf = .ok (.int .i64 C) wf := by
    have := HB.out.1.2.2.2.look HF.out
    simp only [HCC.out] at this
    exact this
  have hw : IntKind.i64.wrap (C - 1) = C - 1 := wrap_small _ (by omega) (by omega)
  go_still_tail 10, (by kernel_rfl)
  change wpList _ _ _ _ _ wf.drew
  have HE := Lib.hid HB.out.drew
  have HFq := Lib.hid (HFp.out.trans Foot.drew)
  clear c0 c1 c2 x0 x1 x3 HB HFp l2 l2'
  generalize wf.drew = wg at *
  go_upto_region 11 with ((at_mapUpdate; refine wpList_put_at _ rfl (.tmp 72) (.tmp 76) (.tmp 78) rfl rfl HE.out.1.2.2.2 (by unfold maxLen; omega) rfl rfl HF.out HC.out ?_; intro wh hm hgr; have HG := Lib.hid (HE.out.cnt (by omega) hm hgr); clear hm hgr))
  have HB := Lib.hid HG.out.1
  have HFp := Lib.hid (HFq.out.trans HG.out.2)
  clear HE HFq HG hw
  obtain ⟨c0, c1, c2, x0, x1, x3⟩ := HB.out.facts HOA.out
  have l3 : ∀ n, (Instr.lookup 46 (.map (some m2)) (.int .i64 o.grp) false).run Try.prog (wh.drewN n) = .ok (.int .i64 (C - 1)) (wh.drewN n) := fun n => by
    have := (HB.out.drewN n).1.2.2.2.look HF.out
    simp only [upd_same, Option.getD_some] at this
    exact this
  go_quiet (fail)
  have HE := Lib.hid (HB.out.drewN nq)
  have HFq := Lib.hid (HFp.out.trans (Foot.drewN nq))
  clear c0 c1 c2 x0 x1 x3 l3 HB HFp
  generalize wh.drewN nq = wi at *
  obtain ⟨c0, c1, c2, x0, x1, x3⟩ := HE.out.facts HOA.out
  go_upto_region 12 with fail
  go_still_tail 8, (by kernel_rfl)
  change wpList _ _ _ _ _ wi.drew
  have HB := Lib.hid HE.out.drew
  have HFp := Lib.hid (HFq.out.trans Foot.drew)
  clear c0 c1 c2 x0 x1 x3 HE HFq
  generalize wi.drew = wj at *
  go_wp2_with ((at_delete; refine wpList_del_at _ rfl (.tmp 92) (.tmp 96) rfl rfl HB.out.1.2.2.2 rfl HF.out ?_; intro wk hm hgr; have HG := Lib.hid (HB.out.cnt (Nat.le_refl _) hm hgr); clear hm hgr))
  go_ret
  refine ⟨rfl, ?_, HFp.out.trans HG.out.2⟩
  have ht : cleared s k o = ⟨s.l.set k { o with set := false, at_ := 0 }, upd s.first o.grp none, upd s.cnt o.grp none⟩ := by
    simp only [cleared, HCC.out]
    rw [if_pos ⟨hg, HFK.out⟩, if_pos hg, if_pos HCZ.out]
  rw [ht]
  have this := HG.out.1
  simp only [upd_upd] at this
  exact this.mono (by omega)
set_option maxHeartbeats 1000000 in
set_option maxRecDepth 100000 in
theorem reset_yes_more (B g : Nat) (v : Value) (m1 m2 N : Nat) (s : LS) (w : World) (h : LAt B g v m1 m2 N s w) (hN : N < 1000000) (hI : Inv s) (hl : s.l.length ≤ 1000000) (k : Nat) (o : One) (ho : s.l[k]? = some o) (hs : o.set = true) (hg : o.grp ≠ 0)
    (hsf : s.first o.grp = some (k : Int)) (hC : (s.cnt o.grp).getD 0 ≠ 1) :
    Calls Try.prog 10 #[.pointer (some ⟨g, 0, none⟩), .int .i64 k] w fun e w' => e = .returned (.bool true) ∧ LAt B g v m1 m2 (N + 2) (cleared s k o) w' ∧ Foot g v m1 m2 w w' := by
  have hk : k < s.l.length := (List.getElem?_eq_some_iff.1 ho).1
  have HFK : Hid (s.first o.grp = some (k : Int)) := Lib.hid (by exact hsf)
  obtain ⟨b, c, e, hc⟩ := own_some h.1.2.1 hk
  subst e
  obtain ⟨c0, c1, c2, x0, x1, x3⟩ := h.facts ho
  rw [hs] at x0
  have f0 := h.1.2.1.frozenAt (k * 4)
  have f1 := h.1.2.1.frozenAt (k * 4 + 1)
  have HT := Lib.hid (h.turn ho false 0)
  have H := Lib.hid h
  have hd : decide (0 ≤ (k : Int) ∧ (k : Int) < (s.l.length : Int)) = true := decide_eq_true (by omega)
  have HD := Lib.hid hd
  have hne : g ≠ b := Ne.symm (h.blk_ne rfl).1
  have HF := Lib.hid (h.2.2 o (List.mem_of_getElem? ho))
  have HOA := Lib.hid (flat_get2 s.l k o { o with set := false, at_ := 0 } ho)
  have hgb : (o.grp == 0) = false := by simpa using hg
  have HC := Lib.hid (fit_pred hI hg hl)
  have hC0 : 1 ≤ (s.cnt o.grp).getD 0 := by rw [hI.cnt _ hg]; have := many_pos ho hs rfl; omega
  have hC1 : (s.cnt o.grp).getD 0 ≤ 1000000 := by rw [hI.cnt _ hg]; have := many_le s.l o.grp; omega
  generalize hCC : (s.cnt o.grp).getD 0 = C at *
  have hz : (C - 1 == 0) = false := by simp; omega
  have hcz : ¬ (C - 1 = 0) := by omega
  have HCZ := Lib.hid hcz
  clear hC hcz
  have HCC := Lib.hid hCC
  have HSF := Lib.hid hsf
  clear h hd hI hCC hsf
  go_enter Try.func10, Try.ntmps10
  go_wp2_with fail
  refine (has_any B g _ m1 m2 N s w H.out k).mono ?_
  rintro e w1 ⟨rfl, rfl⟩
  rw [HD.out]
  go_upto_region 7 with fail
  clear c0 c1 c2 x0 x1 x3 f0 f1 H HD
  generalize ((w.setCell ⟨b, k * 4, none⟩ (.bool false)).setCell ⟨b, k * 4 + 1, none⟩ (.int .i64 0)) = wa at *
  obtain ⟨c0, c1, c2, x0, x1, x3⟩ := HT.out.1.facts HOA.out
  have l1 : ∀ n, (Instr.lookup 46 (.map (some m1)) (.int .i64 o.grp) true).run Try.prog (wa.drewN n) = .ok (.tuple #[.int .i64 k, .bool true]) (wa.drewN n) := fun n => by
    have := (HT.out.1.drewN n).1.2.2.1.look_ok HF.out
    simp only [HSF.out] at this
    exact this
  go_quiet (fail)
  have HB := Lib.hid (HT.out.1.drewN nq)
  have HFp := Lib.hid (HT.out.2.trans (Foot.drewN nq))
  clear c0 c1 c2 x0 x1 x3 l1 HT
  generalize wa.drewN nq = wd at *
  obtain ⟨c0, c1, c2, x0, x1, x3⟩ := HB.out.facts HOA.out
  go_upto_region 9 with fail
  go_still_tail 8, (by kernel_rfl)
  change wpList _ _ _ _ _ wd.drew
  have HE := Lib.hid HB.out.drew
  have HFq := Lib.hid (HFp.out.trans Foot.drew)
  clear c0 c1 c2 x0 x1 x3 HB HFp
  generalize wd.drew = we at *
  go_upto_region 10 with ((at_delete; refine wpList_del_at _ rfl (.tmp 64) (.tmp 68) rfl rfl HE.out.1.2.2.1 rfl HF.out ?_; intro wf hm hgr; have HG := Lib.hid (HE.out.first (Nat.le_refl _) hm hgr); clear hm hgr))
  have HB := Lib.hid HG.out.1
  have HFp := Lib.hid (HFq.out.trans HG.out.2)
  clear HE HFq HG
  obtain ⟨c0, c1, c2, x0, x1, x3⟩ := HB.out.facts HOA.out
  have l2 : (Instr.lookup 46 (.map (some m2)) (.int .i64 o.grp) false).run Try.prog wf.drew = .ok (.int .i64 C) wf.drew := by
    have := HB.out.drew.1.2.2.2.look HF.out
    simp only [HCC.out] at this
    exact this
  have l2' : (Instr.lookup 46 (.map (some m2)) (.int .i64 o.grp) false).run Try.prog wf = .ok (.int .i64 C) wf := by
    have := HB.out.1.2.2.2.look HF.out
    simp only [HCC.out] at this
    exact this
  have hw : IntKind.i64.wrap (C - 1) = C - 1 := wrap_small _ (by omega) (by omega)
  go_still_tail 10, (by kernel_rfl)
  change wpList _ _ _ _ _ wf.drew
  have HE := Lib.hid HB.out.drew
  have HFq := Lib.hid (HFp.out.trans Foot.drew)
  clear c0 c1 c2 x0 x1 x3 HB HFp l2 l2'
  generalize wf.drew = wg at *
  go_upto_region 11 with ((at_mapUpdate; refine wpList_put_at _ rfl (.tmp 72) (.tmp 76) (.tmp 78) rfl rfl HE.out.1.2.2.2 (by unfold maxLen; omega) rfl rfl HF.out HC.out ?_; intro wh hm hgr; have HG := Lib.hid (HE.out.cnt (by omega) hm hgr); clear hm hgr))
  have HB := Lib.hid HG.out.1
  have HFp := Lib.hid (HFq.out.trans HG.out.2)
  clear HE HFq HG hw
  obtain ⟨c0, c1, c2, x0, x1, x3⟩ := HB.out.facts HOA.out
  have l3 : ∀ n, (Instr.lookup 46 (.map (some m2)) (.int .i64 o.grp) false).run Try.prog (wh.drewN n) = .ok (.int .i64 (C - 1)) (wh.drewN n) := fun n => by
    have := (HB.out.drewN n).1.2.2.2.look HF.out
    simp only [upd_same, Option.getD_some] at this
    exact this
  go_quiet (fail)
  have HE := Lib.hid (HB.out.drewN nq)
  have HFq := Lib.hid (HFp.out.trans (Foot.drewN nq))
  clear c0 c1 c2 x0 x1 x3 l3 HB HFp
  generalize wh.drewN nq = wi at *
  go_wp2_with fail
  go_ret
  refine ⟨rfl, ?_, HFq.out⟩
  have ht : cleared s k o = ⟨s.l.set k { o with set := false, at_ := 0 }, upd s.first o.grp none, upd s.cnt o.grp (some (C - 1))⟩ := by
    simp only [cleared, HCC.out]
    rw [if_pos ⟨hg, HFK.out⟩, if_pos hg, if_neg HCZ.out]
  rw [ht]
  have this := HE.out
  exact this.mono (by omega)
set_option maxHeartbeats 1000000 in
set_option maxRecDepth 100000 in
theorem reset_none_last (B g : Nat) (v : Value) (m1 m2 N : Nat) (s : LS) (w : World) (h : LAt B g v m1 m2 N s w) (hN : N < 1000000) (hI : Inv s) (hl : s.l.length ≤ 1000000) (k : Nat) (o : One) (ho : s.l[k]? = some o) (hs : o.set = true) (hg : o.grp ≠ 0)
    (hsf : s.first o.grp = none) (hC : (s.cnt o.grp).getD 0 = 1) :
    Calls Try.prog 10 #[.pointer (some ⟨g, 0, none⟩), .int .i64 k] w fun e w' => e = .returned (.bool true) ∧ LAt B g v m1 m2 (N + 2) (cleared s k o) w' ∧ Foot g v m1 m2 w w' := by
  have hk : k < s.l.length := (List.getElem?_eq_some_iff.1 ho).1
  have HFK : Hid (¬ s.first o.grp = some (k : Int)) := Lib.hid (by rw [hsf]; simp)
  obtain ⟨b, c, e, hc⟩ := own_some h.1.2.1 hk
  subst e
  obtain ⟨c0, c1, c2, x0, x1, x3⟩ := h.facts ho
  rw [hs] at x0
  have f0 := h.1.2.1.frozenAt (k * 4)
  have f1 := h.1.2.1.frozenAt (k * 4 + 1)
  have HT := Lib.hid (h.turn ho false 0)
  have H := Lib.hid h
  have hd : decide (0 ≤ (k : Int) ∧ (k : Int) < (s.l.length : Int)) = true := decide_eq_true (by omega)
  have HD := Lib.hid hd
  have hne : g ≠ b := Ne.symm (h.blk_ne rfl).1
  have HF := Lib.hid (h.2.2 o (List.mem_of_getElem? ho))
  have HOA := Lib.hid (flat_get2 s.l k o { o with set := false, at_ := 0 } ho)
  have hgb : (o.grp == 0) = false := by simpa using hg
  have HC := Lib.hid (fit_pred hI hg hl)
  have hC0 : 1 ≤ (s.cnt o.grp).getD 0 := by rw [hI.cnt _ hg]; have := many_pos ho hs rfl; omega
  have hC1 : (s.cnt o.grp).getD 0 ≤ 1000000 := by rw [hI.cnt _ hg]; have := many_le s.l o.grp; omega
  generalize hCC : (s.cnt o.grp).getD 0 = C at *
  have hz : (C - 1 == 0) = true := by simp; omega
  have hcz : (C - 1 = 0) := by omega
  have HCZ := Lib.hid hcz
  clear hC hcz
  have HCC := Lib.hid hCC
  have HSF := Lib.hid hsf
  clear h hd hI hCC hsf
  go_enter Try.func10, Try.ntmps10
  go_wp2_with fail
  refine (has_any B g _ m1 m2 N s w H.out k).mono ?_
  rintro e w1 ⟨rfl, rfl⟩
  rw [HD.out]
  go_upto_region 7 with fail
  clear c0 c1 c2 x0 x1 x3 f0 f1 H HD
  generalize ((w.setCell ⟨b, k * 4, none⟩ (.bool false)).setCell ⟨b, k * 4 + 1, none⟩ (.int .i64 0)) = wa at *
  obtain ⟨c0, c1, c2, x0, x1, x3⟩ := HT.out.1.facts HOA.out
  have l1 : ∀ n, (Instr.lookup 46 (.map (some m1)) (.int .i64 o.grp) true).run Try.prog (wa.drewN n) = .ok (.tuple #[.int .i64 0, .bool false]) (wa.drewN n) := fun n => by
    have := (HT.out.1.drewN n).1.2.2.1.look_ok HF.out
    simp only [HSF.out] at this
    exact this
  go_quiet (fail)
  have HB := Lib.hid (HT.out.1.drewN nq)
  have HFp := Lib.hid (HT.out.2.trans (Foot.drewN nq))
  clear c0 c1 c2 x0 x1 x3 l1 HT
  generalize wa.drewN nq = wd at *
  obtain ⟨c0, c1, c2, x0, x1, x3⟩ := HB.out.facts HOA.out
  go_upto_region 10 with fail
  clear c0 c1 c2 x0 x1 x3
  obtain ⟨c0, c1, c2, x0, x1, x3⟩ := HB.out.facts HOA.out
  have l2 : (Instr.lookup 46 (.map (some m2)) (.int .i64 o.grp) false).run Try.prog wd.drew = .ok (.int .i64 C) wd.drew := by
    have := HB.out.drew.1.2.2.2.look HF.out
    simp only [HCC.out] at this
    exact this
  have l2' : (Instr.lookup 46 (.map (some m2)) (.int .i64 o.grp) false).run Try.prog wd = .ok (.int .i64 C) wd := by
    have := HB.out.1.2.2.2.look HF.out
    simp only [HCC.out] at this
    exact this
  have hw : IntKind.i64.wrap (C - 1) = C - 1 := wrap_small _ (by omega) (by omega)
  go_still_tail 10, (by kernel_rfl)
  change wpList _ _ _ _ _ wd.drew
  have HE := Lib.hid HB.out.drew
  have HFq := Lib.hid (HFp.out.trans Foot.drew)
  clear c0 c1 c2 x0 x1 x3 HB HFp l2 l2'
  generalize wd.drew = wg at *
  go_upto_region 11 with ((at_mapUpdate; refine wpList_put_at _ rfl (.tmp 72) (.tmp 76) (.tmp 78) rfl rfl HE.out.1.2.2.2 (by unfold maxLen; omega) rfl rfl HF.out HC.out ?_; intro wh hm hgr; have HG := Lib.hid (HE.out.cnt (by omega) hm hgr); clear hm hgr))
  have HB := Lib.hid HG.out.1
  have HFp := Lib.hid (HFq.out.trans HG.out.2)
  clear HE HFq HG hw
  obtain ⟨c0, c1, c2, x0, x1, x3⟩ := HB.out.facts HOA.out
  have l3 : ∀ n, (Instr.lookup 46 (.map (some m2)) (.int .i64 o.grp) false).run Try.prog (wh.drewN n) = .ok (.int .i64 (C - 1)) (wh.drewN n) := fun n => by
    have := (HB.out.drewN n).1.2.2.2.look HF.out
    simp only [upd_same, Option.getD_some] at this
    exact this
  go_quiet (fail)
  have HE := Lib.hid (HB.out.drewN nq)
  have HFq := Lib.hid (HFp.out.trans (Foot.drewN nq))
  clear c0 c1 c2 x0 x1 x3 l3 HB HFp
  generalize wh.drewN nq = wi at *
  obtain ⟨c0, c1, c2, x0, x1, x3⟩ := HE.out.facts HOA.out
  go_upto_region 12 with fail
  go_still_tail 8, (by kernel_rfl)
  change wpList _ _ _ _ _ wi.drew
  have HB := Lib.hid HE.out.drew
  have HFp := Lib.hid (HFq.out.trans Foot.drew)
  clear c0 c1 c2 x0 x1 x3 HE HFq
  generalize wi.drew = wj at *
  go_wp2_with ((at_delete; refine wpList_del_at _ rfl (.tmp 92) (.tmp 96) rfl rfl HB.out.1.2.2.2 rfl HF.out ?_; intro wk hm hgr; have HG := Lib.hid (HB.out.cnt (Nat.le_refl _) hm hgr); clear hm hgr))
  go_ret
  refine ⟨rfl, ?_, HFp.out.trans HG.out.2⟩
  have ht : cleared s k o = ⟨s.l.set k { o with set := false, at_ := 0 }, s.first, upd s.cnt o.grp none⟩ := by
    simp only [cleared, HCC.out]
    rw [if_neg (fun h => HFK.out h.2), if_pos hg, if_pos HCZ.out]
  rw [ht]
  have this := HG.out.1
  simp only [upd_upd] at this
  exact this.mono (by omega)
set_option maxHeartbeats 1000000 in
set_option maxRecDepth 100000 in
theorem reset_none_more (B g : Nat) (v : Value) (m1 m2 N : Nat) (s : LS) (w : World) (h : LAt B g v m1 m2 N s w) (hN : N < 1000000) (hI : Inv s) (hl : s.l.length ≤ 1000000) (k : Nat) (o : One) (ho : s.l[k]? = some o) (hs : o.set = true) (hg : o.grp ≠ 0)
    (hsf : s.first o.grp = none) (hC : (s.cnt o.grp).getD 0 ≠ 1) :
    Calls Try.prog 10 #[.pointer (some ⟨g, 0, none⟩), .int .i64 k] w fun e w' => e = .returned (.bool true) ∧ LAt B g v m1 m2 (N + 2) (cleared s k o) w' ∧ Foot g v m1 m2 w w' := by
  have hk : k < s.l.length := (List.getElem?_eq_some_iff.1 ho).1
  have HFK : Hid (¬ s.first o.grp = some (k : Int)) := Lib.hid (by rw [hsf]; simp)
  obtain ⟨b, c, e, hc⟩ := own_some h.1.2.1 hk
  subst e
  obtain ⟨c0, c1, c2, x0, x1, x3⟩ := h.facts ho
  rw [hs] at x0
  have f0 := h.1.2.1.frozenAt (k * 4)
  have f1 := h.1.2.1.frozenAt (k * 4 + 1)
  have HT := Lib.hid (h.turn ho false 0)
  have H := Lib.hid h
  have hd : decide (0 ≤ (k : Int) ∧ (k : Int) < (s.l.length : Int)) = true := decide_eq_true (by omega)
  have HD := Lib.hid hd
  have hne : g ≠ b := Ne.symm (h.blk_ne rfl).1
  have HF := Lib.hid (h.2.2 o (List.mem_of_getElem? ho))
  have HOA := Lib.hid (flat_get2 s.l k o { o with set := false, at_ := 0 } ho)
  have hgb : (o.grp == 0) = false := by simpa using hg
  have HC := Lib.hid (fit_pred hI hg hl)
  have hC0 : 1 ≤ (s.cnt o.grp).getD 0 := by rw [hI.cnt _ hg]; have := many_pos ho hs rfl; omega
  have hC1 : (s.cnt o.grp).getD 0 ≤ 1000000 := by rw [hI.cnt _ hg]; have := many_le s.l o.grp; omega
  generalize hCC : (s.cnt o.grp).getD 0 = C at *
  have hz : (C - 1 == 0) = false := by simp; omega
  have hcz : ¬ (C - 1 = 0) := by omega
  have HCZ := Lib.hid hcz
  clear hC hcz
  have HCC := Lib.hid hCC
  have HSF := Lib.hid hsf
  clear h hd hI hCC hsf
  go_enter Try.func10, Try.ntmps10
  go_wp2_with fail
  refine (has_any B g _ m1 m2 N s w H.out k).mono ?_
  rintro e w1 ⟨rfl, rfl⟩
  rw [HD.out]
  go_upto_region 7 with fail
  clear c0 c1 c2 x0 x1 x3 f0 f1 H HD
  generalize ((w.setCell ⟨b, k * 4, none⟩ (.bool false)).setCell ⟨b, k * 4 + 1, none⟩ (.int .i64 0)) = wa at *
  obtain ⟨c0, c1, c2, x0, x1, x3⟩ := HT.out.1.facts HOA.out
  have l1 : ∀ n, (Instr.lookup 46 (.map (some m1)) (.int .i64 o.grp) true).run Try.prog (wa.drewN n) = .ok (.tuple #[.int .i64 0, .bool false]) (wa.drewN n) := fun n => by
    have := (HT.out.1.drewN n).1.2.2.1.look_ok HF.out
    simp only [HSF.out] at this
    exact this
  go_quiet (fail)
  have HB := Lib.hid (HT.out.1.drewN nq)
  have HFp := Lib.hid (HT.out.2.trans (Foot.drewN nq))
  clear c0 c1 c2 x0 x1 x3 l1 HT
  generalize wa.drewN nq = wd at *
  obtain ⟨c0, c1, c2, x0, x1, x3⟩ := HB.out.facts HOA.out
  go_upto_region 10 with fail
  clear c0 c1 c2 x0 x1 x3
  obtain ⟨c0, c1, c2, x0, x1, x3⟩ := HB.out.facts HOA.out
  have l2 : (Instr.lookup 46 (.map (some m2)) (.int .i64 o.grp) false).run Try.prog wd.drew = .ok (.int .i64 C) wd.drew := by
    have := HB.out.drew.1.2.2.2.look HF.out
    simp only [HCC.out] at this
    exact this
  have l2' : (Instr.lookup 46 (.map (some m2)) (.int .i64 o.grp) false).run Try.prog wd = .ok (.int .i64 C) wd := by
    have := HB.out.1.2.2.2.look HF.out
    simp only [HCC.out] at this
    exact this
  have hw : IntKind.i64.wrap (C - 1) = C - 1 := wrap_small _ (by omega) (by omega)
  go_still_tail 10, (by kernel_rfl)
  change wpList _ _ _ _ _ wd.drew
  have HE := Lib.hid HB.out.drew
  have HFq := Lib.hid (HFp.out.trans Foot.drew)
  clear c0 c1 c2 x0 x1 x3 HB HFp l2 l2'
  generalize wd.drew = wg at *
  go_upto_region 11 with ((at_mapUpdate; refine wpList_put_at _ rfl (.tmp 72) (.tmp 76) (.tmp 78) rfl rfl HE.out.1.2.2.2 (by unfold maxLen; omega) rfl rfl HF.out HC.out ?_; intro wh hm hgr; have HG := Lib.hid (HE.out.cnt (by omega) hm hgr); clear hm hgr))
  have HB := Lib.hid HG.out.1
  have HFp := Lib.hid (HFq.out.trans HG.out.2)
  clear HE HFq HG hw
  obtain ⟨c0, c1, c2, x0, x1, x3⟩ := HB.out.facts HOA.out
  have l3 : ∀ n, (Instr.lookup 46 (.map (some m2)) (.int .i64 o.grp) false).run Try.prog (wh.drewN n) = .ok (.int .i64 (C - 1)) (wh.drewN n) := fun n => by
    have := (HB.out.drewN n).1.2.2.2.look HF.out
    simp only [upd_same, Option.getD_some] at this
    exact this
  go_quiet (fail)
  have HE := Lib.hid (HB.out.drewN nq)
  have HFq := Lib.hid (HFp.out.trans (Foot.drewN nq))
  clear c0 c1 c2 x0 x1 x3 l3 HB HFp
  generalize wh.drewN nq = wi at *
  go_wp2_with fail
  go_ret
  refine ⟨rfl, ?_, HFq.out⟩
  have ht : cleared s k o = ⟨s.l.set k { o with set := false, at_ := 0 }, s.first, upd s.cnt o.grp (some (C - 1))⟩ := by
    simp only [cleared, HCC.out]
    rw [if_neg (fun h => HFK.out h.2), if_pos hg, if_neg HCZ.out]
  rw [ht]
  have this := HE.out
  exact this.mono (by omega)
set_option maxHeartbeats 1000000 in
set_option maxRecDepth 100000 in
theorem reset_other_last (B g : Nat) (v : Value) (m1 m2 N : Nat) (s : LS) (w : World) (h : LAt B g v m1 m2 N s w) (hN : N < 1000000) (hI : Inv s) (hl : s.l.length ≤ 1000000) (k : Nat) (o : One) (ho : s.l[k]? = some o) (hs : o.set = true) (hg : o.grp ≠ 0)
    (fn : Nat) (hfk : fn ≠ k) (hsf : s.first o.grp = some (fn : Int)) (hC : (s.cnt o.grp).getD 0 = 1) :
    Calls Try.prog 10 #[.pointer (some ⟨g, 0, none⟩), .int .i64 k] w fun e w' => e = .returned (.bool true) ∧ LAt B g v m1 m2 (N + 2) (cleared s k o) w' ∧ Foot g v m1 m2 w w' := by
  have hk : k < s.l.length := (List.getElem?_eq_some_iff.1 ho).1
  have HFK : Hid (¬ s.first o.grp = some (k : Int)) := Lib.hid (by rw [hsf]; simp; omega)
  have hfb : ((fn : Int) == (k : Int)) = false := by simp; omega
  obtain ⟨b, c, e, hc⟩ := own_some h.1.2.1 hk
  subst e
  obtain ⟨c0, c1, c2, x0, x1, x3⟩ := h.facts ho
  rw [hs] at x0
  have f0 := h.1.2.1.frozenAt (k * 4)
  have f1 := h.1.2.1.frozenAt (k * 4 + 1)
  have HT := Lib.hid (h.turn ho false 0)
  have H := Lib.hid h
  have hd : decide (0 ≤ (k : Int) ∧ (k : Int) < (s.l.length : Int)) = true := decide_eq_true (by omega)
  have HD := Lib.hid hd
  have hne : g ≠ b := Ne.symm (h.blk_ne rfl).1
  have HF := Lib.hid (h.2.2 o (List.mem_of_getElem? ho))
  have HOA := Lib.hid (flat_get2 s.l k o { o with set := false, at_ := 0 } ho)
  have hgb : (o.grp == 0) = false := by simpa using hg
  have HC := Lib.hid (fit_pred hI hg hl)
  have hC0 : 1 ≤ (s.cnt o.grp).getD 0 := by rw [hI.cnt _ hg]; have := many_pos ho hs rfl; omega
  have hC1 : (s.cnt o.grp).getD 0 ≤ 1000000 := by rw [hI.cnt _ hg]; have := many_le s.l o.grp; omega
  generalize hCC : (s.cnt o.grp).getD 0 = C at *
  have hz : (C - 1 == 0) = true := by simp; omega
  have hcz : (C - 1 = 0) := by omega
  have HCZ := Lib.hid hcz
  clear hC hcz
  have HCC := Lib.hid hCC
  have HSF := Lib.hid hsf
  clear h hd hI hCC hsf
  go_enter Try.func10, Try.ntmps10
  go_wp2_with fail
  refine (has_any B g _ m1 m2 N s w H.out k).mono ?_
  rintro e w1 ⟨rfl, rfl⟩
  rw [HD.out]
  go_upto_region 7 with fail
  clear c0 c1 c2 x0 x1 x3 f0 f1 H HD
  generalize ((w.setCell ⟨b, k * 4, none⟩ (.bool false)).setCell ⟨b, k * 4 + 1, none⟩ (.int .i64 0)) = wa at *
  obtain ⟨c0, c1, c2, x0, x1, x3⟩ := HT.out.1.facts HOA.out
  have l1 : ∀ n, (Instr.lookup 46 (.map (some m1)) (.int .i64 o.grp) true).run Try.prog (wa.drewN n) = .ok (.tuple #[.int .i64 fn, .bool true]) (wa.drewN n) := fun n => by
    have := (HT.out.1.drewN n).1.2.2.1.look_ok HF.out
    simp only [HSF.out] at this
    exact this
  go_quiet (fail)
  have HB := Lib.hid (HT.out.1.drewN nq)
  have HFp := Lib.hid (HT.out.2.trans (Foot.drewN nq))
  clear c0 c1 c2 x0 x1 x3 l1 HT
  generalize wa.drewN nq = wd at *
  obtain ⟨c0, c1, c2, x0, x1, x3⟩ := HB.out.facts HOA.out
  go_upto_region 10 with fail
  clear c0 c1 c2 x0 x1 x3
  obtain ⟨c0, c1, c2, x0, x1, x3⟩ := HB.out.facts HOA.out
  have l2 : (Instr.lookup 46 (.map (some m2)) (.int .i64 o.grp) false).run Try.prog wd.drew = .ok (.int .i64 C) wd.drew := by
    have := HB.out.drew.1.2.2.2.look HF.out
    simp only [HCC.out] at this
    exact this
  have l2' : (Instr.lookup 46 (.map (some m2)) (.int .i64 o.grp) false).run Try.prog wd = .ok (.int .i64 C) wd := by
    have := HB.out.1.2.2.2.look HF.out
    simp only [HCC.out] at this
    exact this
  have hw : IntKind.i64.wrap (C - 1) = C - 1 := wrap_small _ (by omega) (by omega)
  go_still_tail 10, (by kernel_rfl)
  change wpList _ _ _ _ _ wd.drew
  have HE := Lib.hid HB.out.drew
  have HFq := Lib.hid (HFp.out.trans Foot.drew)
  clear c0 c1 c2 x0 x1 x3 HB HFp l2 l2'
  generalize wd.drew = wg at *
  go_upto_region 11 with ((at_mapUpdate; refine wpList_put_at _ rfl (.tmp 72) (.tmp 76) (.tmp 78) rfl rfl HE.out.1.2.2.2 (by unfold maxLen; omega) rfl rfl HF.out HC.out ?_; intro wh hm hgr; have HG := Lib.hid (HE.out.cnt (by omega) hm hgr); clear hm hgr))
  have HB := Lib.hid HG.out.1
  have HFp := Lib.hid (HFq.out.trans HG.out.2)
  clear HE HFq HG hw
  obtain ⟨c0, c1, c2, x0, x1, x3⟩ := HB.out.facts HOA.out
  have l3 : ∀ n, (Instr.lookup 46 (.map (some m2)) (.int .i64 o.grp) false).run Try.prog (wh.drewN n) = .ok (.int .i64 (C - 1)) (wh.drewN n) := fun n => by
    have := (HB.out.drewN n).1.2.2.2.look HF.out
    simp only [upd_same, Option.getD_some] at this
    exact this
  go_quiet (fail)
  have HE := Lib.hid (HB.out.drewN nq)
  have HFq := Lib.hid (HFp.out.trans (Foot.drewN nq))
  clear c0 c1 c2 x0 x1 x3 l3 HB HFp
  generalize wh.drewN nq = wi at *
  obtain ⟨c0, c1, c2, x0, x1, x3⟩ := HE.out.facts HOA.out
  go_upto_region 12 with fail
  go_still_tail 8, (by kernel_rfl)
  change wpList _ _ _ _ _ wi.drew
  have HB := Lib.hid HE.out.drew
  have HFp := Lib.hid (HFq.out.trans Foot.drew)
  clear c0 c1 c2 x0 x1 x3 HE HFq
  generalize wi.drew = wj at *
  go_wp2_with ((at_delete; refine wpList_del_at _ rfl (.tmp 92) (.tmp 96) rfl rfl HB.out.1.2.2.2 rfl HF.out ?_; intro wk hm hgr; have HG := Lib.hid (HB.out.cnt (Nat.le_refl _) hm hgr); clear hm hgr))
  go_ret
  refine ⟨rfl, ?_, HFp.out.trans HG.out.2⟩
  have ht : cleared s k o = ⟨s.l.set k { o with set := false, at_ := 0 }, s.first, upd s.cnt o.grp none⟩ := by
    simp only [cleared, HCC.out]
    rw [if_neg (fun h => HFK.out h.2), if_pos hg, if_pos HCZ.out]
  rw [ht]
  have this := HG.out.1
  simp only [upd_upd] at this
  exact this.mono (by omega)
set_option maxHeartbeats 1000000 in
set_option maxRecDepth 100000 in
theorem reset_other_more (B g : Nat) (v : Value) (m1 m2 N : Nat) (s : LS) (w : World) (h : LAt B g v m1 m2 N s w) (hN : N < 1000000) (hI : Inv s) (hl : s.l.length ≤ 1000000) (k : Nat) (o : One) (ho : s.l[k]? = some o) (hs : o.set = true) (hg : o.grp ≠ 0)
    (fn : Nat) (hfk : fn ≠ k) (hsf : s.first o.grp = some (fn : Int)) (hC : (s.cnt o.grp).getD 0 ≠ 1) :
    Calls Try.prog 10 #[.pointer (some ⟨g, 0, none⟩), .int .i64 k] w fun e w' => e = .returned (.bool true) ∧ LAt B g v m1 m2 (N + 2) (cleared s k o) w' ∧ Foot g v m1 m2 w w' := by
  have hk : k < s.l.length := (List.getElem?_eq_some_iff.1 ho).1
  have HFK : Hid (¬ s.first o.grp = some (k : Int)) := Lib.hid (by rw [hsf]; simp; omega)
  have hfb : ((fn : Int) == (k : Int)) = false := by simp; omega
  obtain ⟨b, c, e, hc⟩ := own_some h.1.2.1 hk
  subst e
  obtain ⟨c0, c1, c2, x0, x1, x3⟩ := h.facts ho
  rw [hs] at x0
  have f0 := h.1.2.1.frozenAt (k * 4)
  have f1 := h.1.2.1.frozenAt (k * 4 + 1)
  have HT := Lib.hid (h.turn ho false 0)
  have H := Lib.hid h
  have hd : decide (0 ≤ (k : Int) ∧ (k : Int) < (s.l.length : Int)) = true := decide_eq_true (by omega)
  have HD := Lib.hid hd
  have hne : g ≠ b := Ne.symm (h.blk_ne rfl).1
  have HF := Lib.hid (h.2.2 o (List.mem_of_getElem? ho))
  have HOA := Lib.hid (flat_get2 s.l k o { o with set := false, at_ := 0 } ho)
  have hgb : (o.grp == 0) = false := by simpa using hg
  have HC := Lib.hid (fit_pred hI hg hl)
  have hC0 : 1 ≤ (s.cnt o.grp).getD 0 := by rw [hI.cnt _ hg]; have := many_pos ho hs rfl; omega
  have hC1 : (s.cnt o.grp).getD 0 ≤ 1000000 := by rw [hI.cnt _ hg]; have := many_le s.l o.grp; omega
  generalize hCC : (s.cnt o.grp).getD 0 = C at *
  have hz : (C - 1 == 0) = false := by simp; omega
  have hcz : ¬ (C - 1 = 0) := by omega
  have HCZ := Lib.hid hcz
  clear hC hcz
  have HCC := Lib.hid hCC
  have HSF := Lib.hid hsf
  clear h hd hI hCC hsf
  go_enter Try.func10, Try.ntmps10
  go_wp2_with fail
  refine (has_any B g _ m1 m2 N s w H.out k).mono ?_
  rintro e w1 ⟨rfl, rfl⟩
  rw [HD.out]
  go_upto_region 7 with fail
  clear c0 c1 c2 x0 x1 x3 f0 f1 H HD
  generalize ((w.setCell ⟨b, k * 4, none⟩ (.bool false)).setCell ⟨b, k * 4 + 1, none⟩ (.int .i64 0)) = wa at *
  obtain ⟨c0, c1, c2, x0, x1, x3⟩ := HT.out.1.facts HOA.out
  have l1 : ∀ n, (Instr.lookup 46 (.map (some m1)) (.int .i64 o.grp) true).run Try.prog (wa.drewN n) = .ok (.tuple #[.int .i64 fn, .bool true]) (wa.drewN n) := fun n => by
    have := (HT.out.1.drewN n).1.2.2.1.look_ok HF.out
    simp only [HSF.out] at this
    exact this
  go_quiet (fail)
  have HB := Lib.hid (HT.out.1.drewN nq)
  have HFp := Lib.hid (HT.out.2.trans (Foot.drewN nq))
  clear c0 c1 c2 x0 x1 x3 l1 HT
  generalize wa.drewN nq = wd at *
  obtain ⟨c0, c1, c2, x0, x1, x3⟩ := HB.out.facts HOA.out
  go_upto_region 10 with fail
  clear c0 c1 c2 x0 x1 x3
  obtain ⟨c0, c1, c2, x0, x1, x3⟩ := HB.out.facts HOA.out
  have l2 : (Instr.lookup 46 (.map (some m2)) (.int .i64 o.grp) false).run Try.prog wd.drew = .ok (.int .i64 C) wd.drew := by
    have := HB.out.drew.1.2.2.2.look HF.out
    simp only [HCC.out] at this
    exact this
  have l2' : (Instr.lookup 46 (.map (some m2)) (.int .i64 o.grp) false).run Try.prog wd = .ok (.int .i64 C) wd := by
    have := HB.out.1.2.2.2.look HF.out
    simp only [HCC.out] at this
    exact this
  have hw : IntKind.i64.wrap (C - 1) = C - 1 := wrap_small _ (by omega) (by omega)
  go_still_tail 10, (by kernel_rfl)
  change wpList _ _ _ _ _ wd.drew
  have HE := Lib.hid HB.out.drew
  have HFq := Lib.hid (HFp.out.trans Foot.drew)
  clear c0 c1 c2 x0 x1 x3 HB HFp l2 l2'
  generalize wd.drew = wg at *
  go_upto_region 11 with ((at_mapUpdate; refine wpList_put_at _ rfl (.tmp 72) (.tmp 76) (.tmp 78) rfl rfl HE.out.1.2.2.2 (by unfold maxLen; omega) rfl rfl HF.out HC.out ?_; intro wh hm hgr; have HG := Lib.hid (HE.out.cnt (by omega) hm hgr); clear hm hgr))
  have HB := Lib.hid HG.out.1
  have HFp := Lib.hid (HFq.out.trans HG.out.2)
  clear HE HFq HG hw
  obtain ⟨c0, c1, c2, x0, x1, x3⟩ := HB.out.facts HOA.out
  have l3 : ∀ n, (Instr.lookup 46 (.map (some m2)) (.int .i64 o.grp) false).run Try.prog (wh.drewN n) = .ok (.int .i64 (C - 1)) (wh.drewN n) := fun n => by
    have := (HB.out.drewN n).1.2.2.2.look HF.out
    simp only [upd_same, Option.getD_some] at this
    exact this
  go_quiet (fail)
  have HE := Lib.hid (HB.out.drewN nq)
  have HFq := Lib.hid (HFp.out.trans (Foot.drewN nq))
  clear c0 c1 c2 x0 x1 x3 l3 HB HFp
  generalize wh.drewN nq = wi at *
  go_wp2_with fail
  go_ret
  refine ⟨rfl, ?_, HFq.out⟩
  have ht : cleared s k o = ⟨s.l.set k { o with set := false, at_ := 0 }, s.first, upd s.cnt o.grp (some (C - 1))⟩ := by
    simp only [cleared, HCC.out]
    rw [if_neg (fun h => HFK.out h.2), if_pos hg, if_neg HCZ.out]
  rw [ht]
  have this := HE.out
  exact this.mono (by omega)
open Classical in
/-- Reset's answer, and what stands behind it -/
noncomputable def reset (s : LS) (i : Int) : Bool × LS :=
  match (if 0 ≤ i then s.l[i.toNat]? else none) with
  | some o => if o.set then (true, cleared s i.toNat o) else (false, s)
  | none => (false, s)
open Classical in
noncomputable def trip (s : LS) (i now : Int) : Bool × LS :=
  match (if 0 ≤ i then s.l[i.toNat]? else none) with
  | some o => if o.set then (false, s) else (true, tripped s i.toNat o now)
  | none => (false, s)
theorem at_cases (s : LS) (i : Int) : ((¬ (0 ≤ i ∧ i < s.l.length)) ∧ (if 0 ≤ i then s.l[i.toNat]? else none) = none) ∨ ∃ (k : Nat) (o : One), i = k ∧ s.l[k]? = some o ∧ (if 0 ≤ i then s.l[i.toNat]? else none) = some o := by
  by_cases h : 0 ≤ i ∧ i < s.l.length
  · have hk : i.toNat < s.l.length := by omega
    refine .inr ⟨i.toNat, s.l[i.toNat], by omega, List.getElem?_eq_getElem hk, ?_⟩
    rw [if_pos h.1]
    exact List.getElem?_eq_getElem hk
  · refine .inl ⟨h, ?_⟩
    by_cases h0 : 0 ≤ i
    · rw [if_pos h0]
      exact List.getElem?_eq_none (by omega)
    · rw [if_neg h0]
theorem reset_any (B g : Nat) (v : Value) (m1 m2 N : Nat) (s : LS) (w : World) (h : LAt B g v m1 m2 N s w) (hN : N < 1000000) (hI : Inv s) (hl : s.l.length ≤ 1000000) (i : Int) :
    Calls Try.prog 10 #[.pointer (some ⟨g, 0, none⟩), .int .i64 i] w fun e w' => e = .returned (.bool (reset s i).1) ∧ LAt B g v m1 m2 (N + 2) (reset s i).2 w' ∧ Foot g v m1 m2 w w' := by
  unfold reset
  rcases at_cases s i with ⟨hi, e⟩ | ⟨k, o, rfl, ho, e⟩
  · rw [e]
    exact (reset_out B g v m1 m2 N s w h i hi).mono fun _ _ ⟨a, b⟩ => by subst b; exact ⟨a, h.mono (by omega), Foot.refl⟩
  · rw [e]
    simp only [Int.toNat_natCast]
    by_cases hs : o.set = true
    · rw [if_pos hs]
      by_cases hg : o.grp = 0
      · exact reset_zero B g v m1 m2 N s w h k o ho hs hg
      · rcases hf : s.first o.grp with _ | f
        · by_cases hC : (s.cnt o.grp).getD 0 = 1
          · exact reset_none_last B g v m1 m2 N s w h hN hI hl k o ho hs hg hf hC
          · exact reset_none_more B g v m1 m2 N s w h hN hI hl k o ho hs hg hf hC
        · obtain ⟨fn, rfl⟩ : ∃ fn : Nat, f = fn := ⟨f.toNat, by have := (hI.first _ _ hf).1; omega⟩
          by_cases hfk : fn = k
          · subst hfk
            by_cases hC : (s.cnt o.grp).getD 0 = 1
            · exact reset_yes_last B g v m1 m2 N s w h hN hI hl fn o ho hs hg hf hC
            · exact reset_yes_more B g v m1 m2 N s w h hN hI hl fn o ho hs hg hf hC
          · by_cases hC : (s.cnt o.grp).getD 0 = 1
            · exact reset_other_last B g v m1 m2 N s w h hN hI hl k o ho hs hg fn hfk hf hC
            · exact reset_other_more B g v m1 m2 N s w h hN hI hl k o ho hs hg fn hfk hf hC
    · rw [if_neg hs]
      exact (reset_clear B g v m1 m2 N s w h k o ho (by simpa using hs)).mono fun _ _ ⟨a, b⟩ => by subst b; exact ⟨a, h.mono (by omega), Foot.refl⟩
theorem trip_any (B g : Nat) (v : Value) (m1 m2 N : Nat) (s : LS) (w : World) (h : LAt B g v m1 m2 N s w) (hN : N < 1000000) (hI : Inv s) (hl : s.l.length ≤ 1000000) (i now : Int) :
    Calls Try.prog 14 #[.pointer (some ⟨g, 0, none⟩), .int .i64 i, .int .i64 now] w fun e w' => e = .returned (.bool (trip s i now).1) ∧ LAt B g v m1 m2 (N + 2) (trip s i now).2 w' ∧ Foot g v m1 m2 w w' := by
  unfold trip
  rcases at_cases s i with ⟨hi, e⟩ | ⟨k, o, rfl, ho, e⟩
  · rw [e]
    exact (trip_out B g v m1 m2 N s w h i now hi).mono fun _ _ ⟨a, b⟩ => by subst b; exact ⟨a, h.mono (by omega), Foot.refl⟩
  · rw [e]
    simp only [Int.toNat_natCast]
    by_cases hs : o.set = true
    · rw [if_pos hs]
      exact (trip_set B g v m1 m2 N s w h k now o ho hs).mono fun _ _ ⟨a, b⟩ => by subst b; exact ⟨a, h.mono (by omega), Foot.refl⟩
    · rw [if_neg hs]
      have hs' : o.set = false := by simpa using hs
      by_cases hg : o.grp = 0
      · have ht : tripped s k o now = ⟨s.l.set k { o with set := true, at_ := now }, s.first, s.cnt⟩ := by
          simp only [tripped]
          rw [if_neg (fun h => h.1 hg), if_neg (fun h => h hg)]
        rw [ht]
        exact (trip_zero B g v m1 m2 N s w h k now o ho hs' hg).mono fun _ _ ⟨a, b, c⟩ => ⟨a, b.mono (by omega), c⟩
      · rcases hf : s.first o.grp with _ | f
        · by_cases hC : (s.cnt o.grp).getD 0 = 0
          · exact trip_none_yes B g v m1 m2 N s w h hN hI hl k now o ho hs' hg hf hC
          · exact trip_none_no B g v m1 m2 N s w h hN hI hl k now o ho hs' hg hf hC
        · obtain ⟨hf0, _, oF, hof, _⟩ := hI.first _ _ hf
          obtain ⟨fn, rfl⟩ : ∃ fn : Nat, f = fn := ⟨f.toNat, by omega⟩
          rw [Int.toNat_natCast] at hof
          by_cases hat : oF.at_ = now
          · by_cases hkf : (k : Int) < (fn : Int)
            · exact trip_some_yes B g v m1 m2 N s w h hN hI hl k now o ho hs' hg fn oF hf hof hat hkf
            · exact trip_some_no1 B g v m1 m2 N s w h hN hI hl k now o ho hs' hg fn oF hf hof hat (by omega)
          · exact trip_some_no2 B g v m1 m2 N s w h hN hI hl k now o ho hs' hg fn oF hf hof hat
theorem inv_reset {s : LS} (h : Inv s) (i : Int) : Inv (reset s i).2 := by
  unfold reset
  rcases at_cases s i with ⟨hi, e⟩ | ⟨k, o, rfl, ho, e⟩
  · rw [e]; exact h
  · rw [e]
    simp only [Int.toNat_natCast]
    by_cases hs : o.set = true
    · rw [if_pos hs]; exact inv_cleared h ho hs
    · rw [if_neg hs]; exact h
theorem inv_trip {s : LS} (h : Inv s) (i now : Int) : Inv (trip s i now).2 := by
  unfold trip
  rcases at_cases s i with ⟨hi, e⟩ | ⟨k, o, rfl, ho, e⟩
  · rw [e]; exact h
  · rw [e]
    simp only [Int.toNat_natCast]
    by_cases hs : o.set = true
    · rw [if_pos hs]; exact h
    · rw [if_neg hs]; exact inv_tripped h ho (by simpa using hs) now
theorem len_reset (s : LS) (i : Int) : (reset s i).2.l.length = s.l.length := by
  unfold reset
  rcases at_cases s i with ⟨hi, e⟩ | ⟨k, o, rfl, ho, e⟩
  · rw [e]
  · rw [e]
    by_cases hs : o.set = true
    · simp [hs, cleared]
    · simp [hs]
theorem len_trip (s : LS) (i now : Int) : (trip s i now).2.l.length = s.l.length := by
  unfold trip
  rcases at_cases s i with ⟨hi, e⟩ | ⟨k, o, rfl, ho, e⟩
  · rw [e]
  · rw [e]
    by_cases hs : o.set = true
    · simp [hs]
    · simp [hs, tripped]
end Go.Proofs.Ytcaobjmngdlklaa
