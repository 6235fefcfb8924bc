/-
  The document's parser: thing of a cause and of an effect, walked where nothing is wrong.
-/
import Derived.Test.YtbpenoelmangkaaParThing
namespace Go.Proofs.Ytbpenoelmangkaa
open Go.RowKit
theorem rest_at {W w : World} {l l' : List ByteArray} {b off n c k : Nat} (h : StrsAt W l (.slice (some ⟨b, off, none⟩) n c)) (hb : Below W.heap.size W w) (hl : l.drop k = l') (hl2 : l' ≠ []) (hk : k ≤ c) : StrsAt w l' (.slice (some ⟨b, off + k, none⟩) l'.length (c - k)) := by
  subst hl
  obtain ⟨A, c', hv, hc, hx⟩ := LawFrame.RowsAt.below h hb
  injection hv with hA hn hcc
  subst hA hn hcc
  obtain ⟨b', off', hA, hlt, hcell⟩ := hx (fun e => hl2 (by rw [e]; simp))
  injection hA with hA
  injection hA with hA1 hA2 _
  subst hA1 hA2
  refine ⟨_, _, rfl, by simp; omega, fun _ => ⟨_, _, rfl, hlt, fun i x hi d u hu => ?_⟩⟩
  rw [List.getElem?_drop] at hi
  have := hcell (k + i) x hi d u hu
  rw [show off + k + i * 1 + d = off + (k + i) * 1 + d by omega]
  exact this
set_option maxHeartbeats 4000000 in
set_option maxRecDepth 100000 in
theorem thing_cause (W : World) (g : Nat) (m : Mat) (bw bq : Bool) (vd vp vc ve : Value) (w : World) (h : PS W g m bw bq vd vp vc ve w) (hm : m.devs.length + m.pts.length + m.css.length + m.efs.length ≤ 100)
    (vw : Value) (s0 : ByteArray) (hs0 : s0 = ⟨#[99, 97, 117, 115, 101]⟩) (nm a lw b p q : ByteArray) (kl : Nat) (is : List Int) (hw : StrsAt W [s0, nm, a, lw, b, p, q] vw) (ha : NumP a) (hb : NumP b) (hkl : lampsL[kl]? = some lw) (hku : Upto (fun _ x => ¬ x = lw) lampsL kl) (hk1 : 1 ≤ kl) (hn : ¬ nm ∈ m.names) (hil : is.length = 2) (hi : ∀ (j : Nat) (s : ByteArray), [p, q][j]? = some s → ∃ k : Nat, is[j]? = some (k : Int) ∧ (m.pts.map (·.name))[k]? = some s ∧ Upto (fun _ x => ¬ x = s) (m.pts.map (·.name)) k) (mk : Value → Mat)
    (hmk : ∀ v, mk v = { m with css := m.css ++ [⟨nm, numF a, (kl : Int), numF b, v, is⟩] }) :
    Calls Try.prog 57 #[.pointer (some ⟨g, 0, none⟩), vw] w (fun e w' => ∃ v, PEnds W g (mk v) bw bq e w') := by
  obtain ⟨r, wt, bk, cy, key, ds, ps, cs, es⟩ := m
  obtain ⟨Ad, cd, e⟩ := own_form h.1.ds
  simp only at e
  subst e
  obtain ⟨Ap, cp, e⟩ := own_form h.1.ps
  simp only at e
  subst e
  obtain ⟨Ac, cc, e⟩ := own_form h.1.cs
  simp only at e
  subst e
  obtain ⟨Ae, ce, e⟩ := own_form h.1.es
  simp only at e
  subst e
  have HMM := Lib.hid hmk
  have HP := Lib.hid h
  have HWD := Lib.hid hw
  obtain ⟨A, cw, e, hcw, -⟩ := id hw
  subst e
  simp only [List.length_cons, List.length_nil] at hcw
  rw [show [s0, nm, a, lw, b, p, q].length = 7 from rfl] at *
  have e0 : (s0.toList == [100, 101, 118, 105, 99, 101]) = false := by rw [hs0, ByteArray.toList_eq]; decide
  have e1 : (s0.toList == [112, 111, 105, 110, 116]) = false := by rw [hs0, ByteArray.toList_eq]; decide
  have e2 : (s0.toList == [99, 97, 117, 115, 101]) = true := by rw [hs0, ByteArray.toList_eq]; decide
  clear h hw hmk hs0
  obtain ⟨b0, off0, hA, hcell⟩ := one_at (LawFrame.RowsAt.below HWD.out HP.out.2) (k := 0) (x := s0) rfl
  subst hA
  have y0 := hcell _ rfl
  clear hcell
  obtain ⟨b1, off1, hA, hcell⟩ := one_at (LawFrame.RowsAt.below HWD.out HP.out.2) (k := 1) (x := nm) rfl
  injection hA with hA
  injection hA with hA1 hA2 _
  subst hA1 hA2
  have y1 := hcell _ rfl
  clear hcell
  obtain ⟨b2, off2, hA, hcell⟩ := one_at (LawFrame.RowsAt.below HWD.out HP.out.2) (k := 2) (x := a) rfl
  injection hA with hA
  injection hA with hA1 hA2 _
  subst hA1 hA2
  have y2 := hcell _ rfl
  clear hcell
  obtain ⟨b3, off3, hA, hcell⟩ := one_at (LawFrame.RowsAt.below HWD.out HP.out.2) (k := 3) (x := lw) rfl
  injection hA with hA
  injection hA with hA1 hA2 _
  subst hA1 hA2
  have y3 := hcell _ rfl
  clear hcell
  obtain ⟨b4, off4, hA, hcell⟩ := one_at (LawFrame.RowsAt.below HWD.out HP.out.2) (k := 4) (x := b) rfl
  injection hA with hA
  injection hA with hA1 hA2 _
  subst hA1 hA2
  have y4 := hcell _ rfl
  clear hcell
  obtain ⟨b5, off5, hA, hcell⟩ := one_at (LawFrame.RowsAt.below HWD.out HP.out.2) (k := 5) (x := p) rfl
  injection hA with hA
  injection hA with hA1 hA2 _
  subst hA1 hA2
  have y5 := hcell _ rfl
  clear hcell
  obtain ⟨b6, off6, hA, hcell⟩ := one_at (LawFrame.RowsAt.below HWD.out HP.out.2) (k := 6) (x := q) rfl
  injection hA with hA
  injection hA with hA1 hA2 _
  subst hA1 hA2
  have y6 := hcell _ rfl
  clear hcell
  simp only [Nat.add_zero] at y0
  simp only at hm
  have HN := Lib.hid hn
  have HKL := Lib.hid hkl
  have HKU := Lib.hid hku
  have HIL := Lib.hid hil
  have HII := Lib.hid hi
  clear hn hkl hku hil hi
  obtain ⟨i0, hi0, hz0, hz1, hz2⟩ := cs_parts
  have Ha := Lib.hid ha
  obtain ⟨na, hna⟩ : ∃ n, n = numF a := ⟨_, rfl⟩
  have HNa := Lib.hid hna
  clear ha hna
  have Hb := Lib.hid hb
  obtain ⟨nb, hnb⟩ : ∃ n, n = numF b := ⟨_, rfl⟩
  have HNb := Lib.hid hnb
  clear hb hnb
  go_enter Try.func57, Try.ntmps57
  go_wp2_with fail
  refine (num_any _ _ a Ha.out na HNa.out).mono ?_
  rintro e w1 ⟨rfl, rfl⟩
  go_wp2_with fail
  refine (num_any _ _ b Hb.out nb HNb.out).mono ?_
  rintro e w1 ⟨rfl, rfl⟩
  have hkl0 : (1 : Int) ≤ (kl : Int) := by omega
  go_wp2_with fail
  refine (lamp_any _ _ lw kl HKL.out HKU.out hk1).mono ?_
  rintro e w1 ⟨rfl, hb⟩
  have HP := Lib.hid (HP.out.below hb)
  clear hb
  have y1 : w1.cell? ⟨b0, off0 + 1, none⟩ = some (.string nm) := word_at HWD.out HP.out.2 rfl
  go_wp2_with fail
  refine (fresh_any W g ⟨r, wt, bk, cy, key, ds, ps, cs, es⟩ bw bq _ _ _ _ _ HP.out (by simp only; omega) nm HN.out).mono ?_
  rintro e w2 ⟨rfl, hb⟩
  have HP := Lib.hid (HP.out.below hb)
  clear hb
  have HP := Lib.hid HP.out.drew
  have z0 : w2.cell? ⟨g, 0, none⟩ = some (.int .i64 r) := HP.out.cell 0
  have z1 : w2.cell? ⟨g, 1, none⟩ = some (.int .i64 wt) := HP.out.cell 1
  have z2 : w2.cell? ⟨g, 2, none⟩ = some (.int .i64 bk) := HP.out.cell 2
  have z3 : w2.cell? ⟨g, 3, none⟩ = some (.int .i64 cy) := HP.out.cell 3
  have z4 : w2.cell? ⟨g, 4, none⟩ = some (.string key) := HP.out.cell 4
  have z5 : w2.cell? ⟨g, 5, none⟩ = some (.slice Ad ds.length cd) := HP.out.cell 5
  have z6 : w2.cell? ⟨g, 6, none⟩ = some (.slice Ap ps.length cp) := HP.out.cell 6
  have z7 : w2.cell? ⟨g, 7, none⟩ = some (.slice Ac cs.length cc) := HP.out.cell 7
  have z8 : w2.cell? ⟨g, 8, none⟩ = some (.slice Ae es.length ce) := HP.out.cell 8
  have hpm : (ps.map (·.name)).length ≤ 1000 := by rw [List.length_map]; omega
  have hcw5 : 5 ≤ cw := by omega
  have hpq : [p, q].length ≤ 1000 := by simp
  go_upto_region 19 with fail
  go_region_held3 (fun w' => w'.cell? ⟨g, 0, none⟩ = some (.int .i64 r) ∧ w'.cell? ⟨g, 1, none⟩ = some (.int .i64 wt) ∧ w'.cell? ⟨g, 2, none⟩ = some (.int .i64 bk) ∧ w'.cell? ⟨g, 3, none⟩ = some (.int .i64 cy) ∧ w'.cell? ⟨g, 4, none⟩ = some (.string key) ∧ w'.cell? ⟨g, 5, none⟩ = some (.slice Ad ds.length cd) ∧ w'.cell? ⟨g, 6, none⟩ = some (.slice Ap ps.length cp) ∧ w'.cell? ⟨g, 7, none⟩ = some (.slice Ac cs.length cc) ∧ w'.cell? ⟨g, 8, none⟩ = some (.slice Ae es.length ce))
    (exact ⟨z0, z1, z2, z3, z4, z5, z6, z7, z8⟩)
    (first
      | (go_at_call 76; refine (ptNames_any _ ⟨r, wt, bk, cy, key, ds, ps, cs, es⟩ _ _ _ _ HP.out.1.mat ?_).mono ?_; exact (by simp only; omega); rintro e w6 ⟨v, rfl, hv, hb⟩; obtain ⟨Av, cv, e, hcv, -⟩ := id hv; simp only [List.length_map] at e; subst e; have HV := Lib.hid hv; have HP := Lib.hid (HP.out.below hb); have z0 : w6.cell? ⟨g, 0, none⟩ = some (.int .i64 r) := HP.out.cell 0; have z1 : w6.cell? ⟨g, 1, none⟩ = some (.int .i64 wt) := HP.out.cell 1; have z2 : w6.cell? ⟨g, 2, none⟩ = some (.int .i64 bk) := HP.out.cell 2; have z3 : w6.cell? ⟨g, 3, none⟩ = some (.int .i64 cy) := HP.out.cell 3; have z4 : w6.cell? ⟨g, 4, none⟩ = some (.string key) := HP.out.cell 4; have z5 : w6.cell? ⟨g, 5, none⟩ = some (.slice Ad ds.length cd) := HP.out.cell 5; have z6 : w6.cell? ⟨g, 6, none⟩ = some (.slice Ap ps.length cp) := HP.out.cell 6; have z7 : w6.cell? ⟨g, 7, none⟩ = some (.slice Ac cs.length cc) := HP.out.cell 7; have z8 : w6.cell? ⟨g, 8, none⟩ = some (.slice Ae es.length ce) := HP.out.cell 8; clear hv hb hcv)
      | (go_at_call 75; refine (places_any _ _ (ps.map (·.name)) [p, q] _ _ HV.out hpm (rest_at HWD.out HP.out.2 rfl (by simp) hcw5) hpq is HIL.out HII.out).mono ?_; rintro e w7 ⟨v, rfl, hv, hb⟩; obtain ⟨Ai, ci, e⟩ := own_form hv; subst e; have HIN := Lib.hid hv; have HP := Lib.hid (HP.out.below hb); have z0 : w7.cell? ⟨g, 0, none⟩ = some (.int .i64 r) := HP.out.cell 0; have z1 : w7.cell? ⟨g, 1, none⟩ = some (.int .i64 wt) := HP.out.cell 1; have z2 : w7.cell? ⟨g, 2, none⟩ = some (.int .i64 bk) := HP.out.cell 2; have z3 : w7.cell? ⟨g, 3, none⟩ = some (.int .i64 cy) := HP.out.cell 3; have z4 : w7.cell? ⟨g, 4, none⟩ = some (.string key) := HP.out.cell 4; have z5 : w7.cell? ⟨g, 5, none⟩ = some (.slice Ad ds.length cd) := HP.out.cell 5; have z6 : w7.cell? ⟨g, 6, none⟩ = some (.slice Ap ps.length cp) := HP.out.cell 6; have z7 : w7.cell? ⟨g, 7, none⟩ = some (.slice Ac cs.length cc) := HP.out.cell 7; have z8 : w7.cell? ⟨g, 8, none⟩ = some (.slice Ae es.length ce) := HP.out.cell 8; clear hv hb))
  clear z0 z1 z2 z3 z4 z5 z6 z7 z8 HV
  have HIN : Hid (∃ B', w7.drew.ownsRow B' 3 1 (.slice Ai is.length ci) is.length (is.flatMap nC)) := Lib.hid ⟨_, HIN.out.drew⟩
  have HO := Lib.hid (one_cs ⟨nm, na, (kl : Int), nb, .slice Ai is.length ci, is⟩ _ _ _ rfl)
  have y1 : w7.cell? ⟨b0, off0 + 1, none⟩ = some (.string nm) := word_at HWD.out HP.out.2 rfl
  have z7 : w7.cell? ⟨g, 7, none⟩ = some (.slice Ac cs.length cc) := HP.out.cell 7
  have za : (w7.alloc (.cells #[.string nm, .int .i64 na, .int .i64 (kl : Int), .int .i64 nb, .slice Ai is.length ci] 42)).cell? ⟨g, 7, none⟩ = some (.slice Ac cs.length cc) := (HP.out.1.blk.alloc _).cell 7
  have hwl : W.heap.size ≤ w7.heap.size := HP.out.2.size
  go_upto_region 20 with fail
  go_region_law (first
    | (refine Words.step_append_any (w7.alloc (.cells #[.string nm, .int .i64 na, .int .i64 (kl : Int), .int .i64 nb, .slice Ai is.length ci] 42)).drew (by rfl) (.tmp 149) (.tmp 158) 24 (by rfl) W.heap.size 42 i0 _ 5 64 Try.underlying24 hi0 hz0 hz1 hz2 rfl (by omega) (.slice Ac cs.length cc) cs.length (cs.flatMap Cs.cells) (by rfl) ((HP.out.drew.1.cs).alloc _) (w7.heap.size + 1) (some ⟨w7.heap.size, 0, none⟩) 1 1 (Cs.cells ⟨nm, na, (kl : Int), nb, .slice Ai is.length ci, is⟩) (by rfl) (reads_cs w7.drew _ rfl ⟨nm, na, (kl : Int), nb, .slice Ai is.length ci, is⟩ _) HO.out (by simp only [maxLen]; omega) (by omega) (by show W.heap.size ≤ (w7.alloc _).heap.size; simp; omega) ?_; intro v' w2 ho hg _; obtain ⟨Av, cv, rfl⟩ := own_form ho; have HX := Lib.hid (HP.out.drew.app_cs (x := ⟨nm, na, (kl : Int), nb, .slice Ai is.length ci, is⟩) HIN.out ho hg); have f5 := HX.out.1.frozen 7; have c5 : w2.cell? ⟨g, 7, none⟩ = some (.slice Ac cs.length cc) := HX.out.1.cell 7; clear ho hg))
  all_goals go_wp2_with fail
  all_goals go_end0
  all_goals exact ⟨.slice Ai is.length ci, _, _, _, _, rfl, by rw [HMM.out, ← HNa.out, ← HNb.out]; exact HX.out.2⟩
set_option maxHeartbeats 4000000 in
set_option maxRecDepth 100000 in
theorem thing_effect (W : World) (g : Nat) (m : Mat) (bw bq : Bool) (vd vp vc ve : Value) (w : World) (h : PS W g m bw bq vd vp vc ve w) (hm : m.devs.length + m.pts.length + m.css.length + m.efs.length ≤ 100)
    (vw : Value) (s0 : ByteArray) (hs0 : s0 = ⟨#[101, 102, 102, 101, 99, 116]⟩) (nm dv a b q : ByteArray) (kd : Nat) (is : List Int) (hw : StrsAt W [s0, nm, dv, a, b, q] vw) (ha : NumP a) (hb : NumP b) (hn : ¬ nm ∈ m.names) (hkd : (m.devs.map (·.name))[kd]? = some dv) (hku : Upto (fun _ x => ¬ x = dv) (m.devs.map (·.name)) kd) (hil : is.length = 1) (hi : ∀ (j : Nat) (s : ByteArray), [q][j]? = some s → ∃ k : Nat, is[j]? = some (k : Int) ∧ (m.css.map (·.name))[k]? = some s ∧ Upto (fun _ x => ¬ x = s) (m.css.map (·.name)) k) (mk : Value → Mat)
    (hmk : ∀ v, mk v = { m with efs := m.efs ++ [⟨nm, (kd : Int), numF a, numF b, v, is⟩] }) :
    Calls Try.prog 57 #[.pointer (some ⟨g, 0, none⟩), vw] w (fun e w' => ∃ v, PEnds W g (mk v) bw bq e w') := by
  obtain ⟨r, wt, bk, cy, key, ds, ps, cs, es⟩ := m
  obtain ⟨Ad, cd, e⟩ := own_form h.1.ds
  simp only at e
  subst e
  obtain ⟨Ap, cp, e⟩ := own_form h.1.ps
  simp only at e
  subst e
  obtain ⟨Ac, cc, e⟩ := own_form h.1.cs
  simp only at e
  subst e
  obtain ⟨Ae, ce, e⟩ := own_form h.1.es
  simp only at e
  subst e
  have HMM := Lib.hid hmk
  have HP := Lib.hid h
  have HWD := Lib.hid hw
  obtain ⟨A, cw, e, hcw, -⟩ := id hw
  subst e
  simp only [List.length_cons, List.length_nil] at hcw
  rw [show [s0, nm, dv, a, b, q].length = 6 from rfl] at *
  have e0 : (s0.toList == [100, 101, 118, 105, 99, 101]) = false := by rw [hs0, ByteArray.toList_eq]; decide
  have e1 : (s0.toList == [112, 111, 105, 110, 116]) = false := by rw [hs0, ByteArray.toList_eq]; decide
  have e2 : (s0.toList == [99, 97, 117, 115, 101]) = false := by rw [hs0, ByteArray.toList_eq]; decide
  have e3 : (s0.toList == [101, 102, 102, 101, 99, 116]) = true := by rw [hs0, ByteArray.toList_eq]; decide
  clear h hw hmk hs0
  obtain ⟨b0, off0, hA, hcell⟩ := one_at (LawFrame.RowsAt.below HWD.out HP.out.2) (k := 0) (x := s0) rfl
  subst hA
  have y0 := hcell _ rfl
  clear hcell
  obtain ⟨b1, off1, hA, hcell⟩ := one_at (LawFrame.RowsAt.below HWD.out HP.out.2) (k := 1) (x := nm) rfl
  injection hA with hA
  injection hA with hA1 hA2 _
  subst hA1 hA2
  have y1 := hcell _ rfl
  clear hcell
  obtain ⟨b2, off2, hA, hcell⟩ := one_at (LawFrame.RowsAt.below HWD.out HP.out.2) (k := 2) (x := dv) rfl
  injection hA with hA
  injection hA with hA1 hA2 _
  subst hA1 hA2
  have y2 := hcell _ rfl
  clear hcell
  obtain ⟨b3, off3, hA, hcell⟩ := one_at (LawFrame.RowsAt.below HWD.out HP.out.2) (k := 3) (x := a) rfl
  injection hA with hA
  injection hA with hA1 hA2 _
  subst hA1 hA2
  have y3 := hcell _ rfl
  clear hcell
  obtain ⟨b4, off4, hA, hcell⟩ := one_at (LawFrame.RowsAt.below HWD.out HP.out.2) (k := 4) (x := b) rfl
  injection hA with hA
  injection hA with hA1 hA2 _
  subst hA1 hA2
  have y4 := hcell _ rfl
  clear hcell
  obtain ⟨b5, off5, hA, hcell⟩ := one_at (LawFrame.RowsAt.below HWD.out HP.out.2) (k := 5) (x := q) rfl
  injection hA with hA
  injection hA with hA1 hA2 _
  subst hA1 hA2
  have y5 := hcell _ rfl
  clear hcell
  simp only [Nat.add_zero] at y0
  simp only at hm
  have HN := Lib.hid hn
  have HKD := Lib.hid hkd
  have HKU := Lib.hid hku
  have HIL := Lib.hid hil
  have HII := Lib.hid hi
  clear hn hkd hku hil hi
  obtain ⟨i0, hi0, hz0, hz1, hz2⟩ := es_parts
  have Ha := Lib.hid ha
  obtain ⟨na, hna⟩ : ∃ n, n = numF a := ⟨_, rfl⟩
  have HNa := Lib.hid hna
  clear ha hna
  have Hb := Lib.hid hb
  obtain ⟨nb, hnb⟩ : ∃ n, n = numF b := ⟨_, rfl⟩
  have HNb := Lib.hid hnb
  clear hb hnb
  go_enter Try.func57, Try.ntmps57
  go_wp2_with fail
  refine (num_any _ _ a Ha.out na HNa.out).mono ?_
  rintro e w1 ⟨rfl, rfl⟩
  go_wp2_with fail
  refine (num_any _ _ b Hb.out nb HNb.out).mono ?_
  rintro e w1 ⟨rfl, rfl⟩
  go_wp2_with fail
  refine (fresh_any W g ⟨r, wt, bk, cy, key, ds, ps, cs, es⟩ bw bq _ _ _ _ w HP.out (by simp only; omega) nm HN.out).mono ?_
  rintro e w1 ⟨rfl, hb⟩
  have HP := Lib.hid (HP.out.below hb)
  clear hb
  have hdm : (ds.map (·.name)).length ≤ 1000 := by rw [List.length_map]; omega
  have HP := Lib.hid HP.out.drew
  have z0 : w1.cell? ⟨g, 0, none⟩ = some (.int .i64 r) := HP.out.cell 0
  have z1 : w1.cell? ⟨g, 1, none⟩ = some (.int .i64 wt) := HP.out.cell 1
  have z2 : w1.cell? ⟨g, 2, none⟩ = some (.int .i64 bk) := HP.out.cell 2
  have z3 : w1.cell? ⟨g, 3, none⟩ = some (.int .i64 cy) := HP.out.cell 3
  have z4 : w1.cell? ⟨g, 4, none⟩ = some (.string key) := HP.out.cell 4
  have z5 : w1.cell? ⟨g, 5, none⟩ = some (.slice Ad ds.length cd) := HP.out.cell 5
  have z6 : w1.cell? ⟨g, 6, none⟩ = some (.slice Ap ps.length cp) := HP.out.cell 6
  have z7 : w1.cell? ⟨g, 7, none⟩ = some (.slice Ac cs.length cc) := HP.out.cell 7
  have z8 : w1.cell? ⟨g, 8, none⟩ = some (.slice Ae es.length ce) := HP.out.cell 8
  have y2 : w1.cell? ⟨b0, off0 + 2, none⟩ = some (.string dv) := word_at HWD.out HP.out.2 rfl
  go_upto_region 25 with fail
  go_region_held3 (fun w' => w'.cell? ⟨g, 0, none⟩ = some (.int .i64 r) ∧ w'.cell? ⟨g, 1, none⟩ = some (.int .i64 wt) ∧ w'.cell? ⟨g, 2, none⟩ = some (.int .i64 bk) ∧ w'.cell? ⟨g, 3, none⟩ = some (.int .i64 cy) ∧ w'.cell? ⟨g, 4, none⟩ = some (.string key) ∧ w'.cell? ⟨g, 5, none⟩ = some (.slice Ad ds.length cd) ∧ w'.cell? ⟨g, 6, none⟩ = some (.slice Ap ps.length cp) ∧ w'.cell? ⟨g, 7, none⟩ = some (.slice Ac cs.length cc) ∧ w'.cell? ⟨g, 8, none⟩ = some (.slice Ae es.length ce) ∧ w'.cell? ⟨b0, off0 + 2, none⟩ = some (.string dv))
    (exact ⟨z0, z1, z2, z3, z4, z5, z6, z7, z8, y2⟩)
    (first
      | (go_at_call 73; refine (devNames_any _ ⟨r, wt, bk, cy, key, ds, ps, cs, es⟩ _ _ _ _ HP.out.1.mat ?_).mono ?_; exact (by simp only; omega); rintro e w6 ⟨v, rfl, hv, hb⟩; obtain ⟨Av, cv, e, hcv, -⟩ := id hv; simp only [List.length_map] at e; subst e; have HV := Lib.hid hv; have HP := Lib.hid (HP.out.below hb); have z0 : w6.cell? ⟨g, 0, none⟩ = some (.int .i64 r) := HP.out.cell 0; have z1 : w6.cell? ⟨g, 1, none⟩ = some (.int .i64 wt) := HP.out.cell 1; have z2 : w6.cell? ⟨g, 2, none⟩ = some (.int .i64 bk) := HP.out.cell 2; have z3 : w6.cell? ⟨g, 3, none⟩ = some (.int .i64 cy) := HP.out.cell 3; have z4 : w6.cell? ⟨g, 4, none⟩ = some (.string key) := HP.out.cell 4; have z5 : w6.cell? ⟨g, 5, none⟩ = some (.slice Ad ds.length cd) := HP.out.cell 5; have z6 : w6.cell? ⟨g, 6, none⟩ = some (.slice Ap ps.length cp) := HP.out.cell 6; have z7 : w6.cell? ⟨g, 7, none⟩ = some (.slice Ac cs.length cc) := HP.out.cell 7; have z8 : w6.cell? ⟨g, 8, none⟩ = some (.slice Ae es.length ce) := HP.out.cell 8; have y2 : w6.cell? ⟨b0, off0 + 2, none⟩ = some (.string dv) := word_at HWD.out HP.out.2 rfl; clear hv hb hcv)
      | (go_at_call 72; refine (pnamed_any _ _ _ _ HV.out hdm dv kd HKD.out HKU.out).mono ?_; rintro e w6 ⟨rfl, rfl⟩))
  clear z0 z1 z2 z3 z4 z5 z6 z7 z8 y2 HV
  have HP := Lib.hid HP.out.drew
  have z0 : w6.cell? ⟨g, 0, none⟩ = some (.int .i64 r) := HP.out.cell 0
  have z1 : w6.cell? ⟨g, 1, none⟩ = some (.int .i64 wt) := HP.out.cell 1
  have z2 : w6.cell? ⟨g, 2, none⟩ = some (.int .i64 bk) := HP.out.cell 2
  have z3 : w6.cell? ⟨g, 3, none⟩ = some (.int .i64 cy) := HP.out.cell 3
  have z4 : w6.cell? ⟨g, 4, none⟩ = some (.string key) := HP.out.cell 4
  have z5 : w6.cell? ⟨g, 5, none⟩ = some (.slice Ad ds.length cd) := HP.out.cell 5
  have z6 : w6.cell? ⟨g, 6, none⟩ = some (.slice Ap ps.length cp) := HP.out.cell 6
  have z7 : w6.cell? ⟨g, 7, none⟩ = some (.slice Ac cs.length cc) := HP.out.cell 7
  have z8 : w6.cell? ⟨g, 8, none⟩ = some (.slice Ae es.length ce) := HP.out.cell 8
  have hpm : (cs.map (·.name)).length ≤ 1000 := by rw [List.length_map]; omega
  have hcw5 : 5 ≤ cw := by omega
  have hpq : [q].length ≤ 1000 := by simp
  go_upto_region 26 with fail
  go_region_held3 (fun w' => w'.cell? ⟨g, 0, none⟩ = some (.int .i64 r) ∧ w'.cell? ⟨g, 1, none⟩ = some (.int .i64 wt) ∧ w'.cell? ⟨g, 2, none⟩ = some (.int .i64 bk) ∧ w'.cell? ⟨g, 3, none⟩ = some (.int .i64 cy) ∧ w'.cell? ⟨g, 4, none⟩ = some (.string key) ∧ w'.cell? ⟨g, 5, none⟩ = some (.slice Ad ds.length cd) ∧ w'.cell? ⟨g, 6, none⟩ = some (.slice Ap ps.length cp) ∧ w'.cell? ⟨g, 7, none⟩ = some (.slice Ac cs.length cc) ∧ w'.cell? ⟨g, 8, none⟩ = some (.slice Ae es.length ce))
    (exact ⟨z0, z1, z2, z3, z4, z5, z6, z7, z8⟩)
    (first
      | (go_at_call 77; refine (csNames_any _ ⟨r, wt, bk, cy, key, ds, ps, cs, es⟩ _ _ _ _ HP.out.1.mat ?_).mono ?_; exact (by simp only; omega); rintro e w7 ⟨v, rfl, hv, hb⟩; obtain ⟨Av, cv, e, hcv, -⟩ := id hv; simp only [List.length_map] at e; subst e; have HV := Lib.hid hv; have HP := Lib.hid (HP.out.below hb); have z0 : w7.cell? ⟨g, 0, none⟩ = some (.int .i64 r) := HP.out.cell 0; have z1 : w7.cell? ⟨g, 1, none⟩ = some (.int .i64 wt) := HP.out.cell 1; have z2 : w7.cell? ⟨g, 2, none⟩ = some (.int .i64 bk) := HP.out.cell 2; have z3 : w7.cell? ⟨g, 3, none⟩ = some (.int .i64 cy) := HP.out.cell 3; have z4 : w7.cell? ⟨g, 4, none⟩ = some (.string key) := HP.out.cell 4; have z5 : w7.cell? ⟨g, 5, none⟩ = some (.slice Ad ds.length cd) := HP.out.cell 5; have z6 : w7.cell? ⟨g, 6, none⟩ = some (.slice Ap ps.length cp) := HP.out.cell 6; have z7 : w7.cell? ⟨g, 7, none⟩ = some (.slice Ac cs.length cc) := HP.out.cell 7; have z8 : w7.cell? ⟨g, 8, none⟩ = some (.slice Ae es.length ce) := HP.out.cell 8; clear hv hb hcv)
      | (go_at_call 75; refine (places_any _ _ (cs.map (·.name)) [q] _ _ HV.out hpm (rest_at HWD.out HP.out.2 rfl (by simp) hcw5) hpq is HIL.out HII.out).mono ?_; rintro e w8 ⟨v, rfl, hv, hb⟩; obtain ⟨Ai, ci, e⟩ := own_form hv; subst e; have HIN := Lib.hid hv; have HP := Lib.hid (HP.out.below hb); have z0 : w8.cell? ⟨g, 0, none⟩ = some (.int .i64 r) := HP.out.cell 0; have z1 : w8.cell? ⟨g, 1, none⟩ = some (.int .i64 wt) := HP.out.cell 1; have z2 : w8.cell? ⟨g, 2, none⟩ = some (.int .i64 bk) := HP.out.cell 2; have z3 : w8.cell? ⟨g, 3, none⟩ = some (.int .i64 cy) := HP.out.cell 3; have z4 : w8.cell? ⟨g, 4, none⟩ = some (.string key) := HP.out.cell 4; have z5 : w8.cell? ⟨g, 5, none⟩ = some (.slice Ad ds.length cd) := HP.out.cell 5; have z6 : w8.cell? ⟨g, 6, none⟩ = some (.slice Ap ps.length cp) := HP.out.cell 6; have z7 : w8.cell? ⟨g, 7, none⟩ = some (.slice Ac cs.length cc) := HP.out.cell 7; have z8 : w8.cell? ⟨g, 8, none⟩ = some (.slice Ae es.length ce) := HP.out.cell 8; clear hv hb))
  clear z0 z1 z2 z3 z4 z5 z6 z7 z8 HV
  have HIN : Hid (∃ B', w8.drew.ownsRow B' 3 1 (.slice Ai is.length ci) is.length (is.flatMap nC)) := Lib.hid ⟨_, HIN.out.drew⟩
  have HO := Lib.hid (one_es ⟨nm, (kd : Int), na, nb, .slice Ai is.length ci, is⟩ _ _ _ rfl)
  have y1 : w8.cell? ⟨b0, off0 + 1, none⟩ = some (.string nm) := word_at HWD.out HP.out.2 rfl
  have z8 : w8.cell? ⟨g, 8, none⟩ = some (.slice Ae es.length ce) := HP.out.cell 8
  have za : (w8.alloc (.cells #[.string nm, .int .i64 (kd : Int), .int .i64 na, .int .i64 nb, .slice Ai is.length ci] 39)).cell? ⟨g, 8, none⟩ = some (.slice Ae es.length ce) := (HP.out.1.blk.alloc _).cell 8
  have hwl : W.heap.size ≤ w8.heap.size := HP.out.2.size
  go_upto_region 27 with fail
  go_region_law (first
    | (refine Words.step_append_any (w8.alloc (.cells #[.string nm, .int .i64 (kd : Int), .int .i64 na, .int .i64 nb, .slice Ai is.length ci] 39)).drew (by rfl) (.tmp 204) (.tmp 213) 25 (by rfl) W.heap.size 39 i0 _ 5 64 Try.underlying25 hi0 hz0 hz1 hz2 rfl (by omega) (.slice Ae es.length ce) es.length (es.flatMap Ef.cells) (by rfl) ((HP.out.drew.1.es).alloc _) (w8.heap.size + 1) (some ⟨w8.heap.size, 0, none⟩) 1 1 (Ef.cells ⟨nm, (kd : Int), na, nb, .slice Ai is.length ci, is⟩) (by rfl) (reads_es w8.drew _ rfl ⟨nm, (kd : Int), na, nb, .slice Ai is.length ci, is⟩ _) HO.out (by simp only [maxLen]; omega) (by omega) (by show W.heap.size ≤ (w8.alloc _).heap.size; simp; omega) ?_; intro v' w2 ho hg _; obtain ⟨Av, cv, rfl⟩ := own_form ho; have HX := Lib.hid (HP.out.drew.app_es (x := ⟨nm, (kd : Int), na, nb, .slice Ai is.length ci, is⟩) HIN.out ho hg); have f5 := HX.out.1.frozen 8; have c5 : w2.cell? ⟨g, 8, none⟩ = some (.slice Ae es.length ce) := HX.out.1.cell 8; clear ho hg))
  all_goals go_wp2_with fail
  all_goals go_end0
  all_goals exact ⟨.slice Ai is.length ci, _, _, _, _, rfl, by rw [HMM.out, ← HNa.out, ← HNb.out]; exact HX.out.2⟩
end Go.Proofs.Ytbpenoelmangkaa
