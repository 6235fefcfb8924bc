/-
  MatrixNames, walked.
-/
import Derived.Test.YtckbdnkonccmiaaDoorLawKit
import Derived.Test.YtckbdnkonccmiaaDoorMatPl2
namespace Go.Proofs.YtckbdnkonccmiaaDoor
open Go.RowKit
theorem css_reads {w : World} {cs : List Cs} {A : Option Addr} {n c : Nat} (h : LawFrame.RowsAt w 5 Cs.cells cs (.slice A n c)) (hn : n = cs.length) : Words.Reads w w.heap.size 5 A n (cs.flatMap Cs.cells) := by
  subst hn
  obtain ⟨A', c', e, -, hr⟩ := LawFrame.RowsAt.reads Cs.cells_len (by decide) h
  injection e with e1 _ _
  subst e1
  exact hr
theorem css_one {w : World} {cs : List Cs} (h : ∀ c ∈ cs, NumsAt w c.pts c.v) : ∀ u ∈ cs.flatMap Cs.cells, u.oneCell' = true := by
  intro u hu
  obtain ⟨c, hc, hu⟩ := List.mem_flatMap.1 hu
  obtain ⟨A, cc, e, -, -⟩ := h c hc
  exact one_cs c A c.pts.length cc e u hu
theorem own_some {w : World} {base size n : Nat} {e : TypeId} {v : Value} {xs : List Value} (h : w.ownsRow base e size v n xs) (hn : 0 < n) : ∃ g c, v = .slice (some ⟨g, 0, none⟩) n c ∧ base ≤ g := by
  rcases h.2 with ⟨_, h0⟩ | ⟨g, cap, cur, rfl, hb, _⟩
  · omega
  · exact ⟨g, cap, rfl, hb⟩
theorem own_cells {w : World} {base n c K rb : Nat} {cs : List Cs} {x : Cs} (h : w.ownsRow base 43 5 (.slice (some ⟨rb, 0, none⟩) n c) n (cs.flatMap Cs.cells)) (hn : n = cs.length) (hx : cs[K]? = some x) : w.cell? ⟨rb, K * 5 + 4, none⟩ = some x.v ∧ w.cell? ⟨rb, K * 5 + 1, none⟩ = some (.int .i64 x.votes) ∧ w.cell? ⟨rb, K * 5, none⟩ = some (.string x.name) := by
  subst hn
  obtain ⟨b, off, e, -, hc⟩ := row_at (LawFrame.RowsAt.of_own Cs.cells_len (by decide) h) hx
  injection e with e
  injection e with e1 e2 _
  subst e1 e2
  have a := hc 4 _ rfl
  have b := hc 1 _ rfl
  have d := hc 0 _ rfl
  simp only [Nat.zero_add, Nat.add_zero] at a b d
  exact ⟨a, b, d⟩
theorem pt_name {w : World} {ps : List Pt} {pb po cp : Nat} {p : Pt} (h : PtsAt w ps (.slice (some ⟨pb, po, none⟩) ps.length cp)) (hp : ps[0]? = some p) : w.cell? ⟨pb, po, none⟩ = some (.string p.name) := by
  obtain ⟨b, off, e, -, hc⟩ := row_at h hp
  injection e with e
  injection e with e1 e2 _
  subst e1 e2
  simpa using hc 0 _ rfl
theorem int_kept (w : World) (x : Int) {base n c rb : Nat} {xs : List Value} (h : (w.alloc (.cells #[.int .i64 x] 3)).ownsRow base 43 5 (.slice (some ⟨rb, 0, none⟩) n c) n xs) {v : Value} (j : Nat) : NumsAt ((w.alloc (.cells #[.int .i64 x] 3)).setCell ⟨rb, j, none⟩ v) [x] (.slice (some ⟨w.heap.size, 0, none⟩) 1 1) := by
  have hi : (w.alloc (.cells #[.int .i64 x] 3)).ownsRow w.heap.size 3 1 (.slice (some ⟨w.heap.size, 0, none⟩) 1 1) 1 ([x].flatMap nC) := World.ownsRow_lit (base := w.heap.size) (e := 3) (size := 1) w #[.int .i64 x] 1 (Nat.le_refl _) (by simp only [maxLen]; omega) (by simp)
  exact LawFrame.RowsAt.of_own nC_len (by decide) (hi.kept (grown_set _ rb j v) (own_ne hi h (by decide)))
theorem dev_cells {w : World} {ds : List Dev} {b off c : Nat} {d : Dev} (h : DevsAt w ds (.slice (some ⟨b, off, none⟩) ds.length c)) (hd : ds[0]? = some d) : w.cell? ⟨b, off + 1, none⟩ = some (.int .i64 d.line) ∧ w.cell? ⟨b, off + 2, none⟩ = some (.int .i64 d.unit) := by
  obtain ⟨b', off', e, -, hc⟩ := row_at h hd
  injection e with e
  injection e with e1 e2 _
  subst e1 e2
  exact ⟨by simpa using hc 1 _ rfl, by simpa using hc 2 _ rfl⟩
theorem dev_reads {w : World} {ds : List Dev} {A : Option Addr} {n c : Nat} (h : LawFrame.RowsAt w 3 Dev.cells ds (.slice A ds.length c)) (hn : n = ds.length) : Words.Reads w w.heap.size 3 A n (ds.flatMap Dev.cells) := by
  subst hn
  obtain ⟨A', c', e, -, hr⟩ := LawFrame.RowsAt.reads Dev.cells_len (by decide) h
  injection e with e1 _ _
  subst e1
  exact hr
theorem devs_one (ds : List Dev) : ∀ u ∈ ds.flatMap Dev.cells, u.oneCell' = true := by
  intro u hu
  obtain ⟨c, hc, hu⟩ := List.mem_flatMap.1 hu
  exact one_ds c u hu
theorem be_drew {B : Nat} {w w' : World} (h : Below B w w') : Below B w w'.drew := ⟨h.os, h.tape, h.output, h.size, h.block⟩
theorem own_base {w : World} {b b' size n : Nat} {e : TypeId} {v : Value} {xs : List Value} (hb : b ≤ b') (h : w.ownsRow b' e size v n xs) : w.ownsRow b e size v n xs := by
  obtain ⟨h1, h2⟩ := h
  refine ⟨h1, ?_⟩
  rcases h2 with h | ⟨g, cap, cur, h3, h4, h5⟩
  · exact .inl h
  · exact .inr ⟨g, cap, cur, h3, Nat.le_trans hb h4, h5⟩
theorem own_zero_row (w : World) (t : TypeId) (size : Nat) : (w.alloc (.cells #[] t)).ownsRow w.heap.size t size (.slice (some ⟨w.heap.size, 0, none⟩) 0 0) 0 [] := by
  have := World.ownsRow_lit (base := w.heap.size) (e := t) (size := size) w #[] 0 (Nat.le_refl _) (by simp) (by simp)
  exact this
set_option maxHeartbeats 8000000 in
set_option maxRecDepth 100000 in
theorem matrixNames_any (w : World) (m : Mat) (vd vp vc ve : Value) (ha : MatAt w m vd vp vc ve) (hms : MatSmall m) (k : Nat) (hk : k < 256) (ht : Tab w) (h10 : Tab10 w) :
    Calls Tryd.prog 5 #[m.val vd vp vc ve, .int .u8 (k : Int)] w fun e w' => e = .returned (.bool true) ∧ Below w.heap.size w w' := by
  obtain ⟨r, wt, bk, cy, key, ds, ps, cs, es⟩ := m
  obtain ⟨Ad, cd, e, -, -⟩ := id ha.1
  simp only at e
  subst e
  obtain ⟨Ap, cp, e, -, -⟩ := id ha.2.1
  simp only at e
  subst e
  obtain ⟨Ac, cc, e, -, -⟩ := id ha.2.2.1.1
  simp only at e
  subst e
  obtain ⟨Ae, ce, e, -, -⟩ := id ha.2.2.2.1
  simp only at e
  subst e
  have HB := Lib.hid (⟨(Below.refl _ _).alloc (Nat.le_refl _) _, ha.below ((Below.refl _ _).alloc (Nat.le_refl _) _), Words.Blk.new w _ _, ht.below ((Below.refl _ _).alloc (Nat.le_refl _) _) (Nat.le_refl _), h10.below ((Below.refl _ _).alloc (Nat.le_refl _) _) (Nat.le_refl _)⟩ : HdIs w w.heap.size ⟨r, wt, bk, cy, key, ds, ps, cs, es⟩ (.slice Ad ds.length cd) (.slice Ap ps.length cp) (.slice Ac cs.length cc) (.slice Ae es.length ce) #[.int .i64 r, .int .i64 wt, .int .i64 bk, .int .i64 cy, .string key, .slice Ad ds.length cd, .slice Ap ps.length cp, .slice Ac cs.length cc, .slice Ae es.length ce] (w.alloc (.cells #[.int .i64 r, .int .i64 wt, .int .i64 bk, .int .i64 cy, .string key, .slice Ad ds.length cd, .slice Ap ps.length cp, .slice Ac cs.length cc, .slice Ae es.length ce] 27)))
  have HSM := Lib.hid hms
  clear ha hms ht h10
  unfold Mat.val
  simp only
  go_enter Tryd.func5, Tryd.ntmps5
  go_wp2_with fail
  refine (head_any _ HB.out.tab HB.out.tab10).mono ?_
  rintro e w1 ⟨rfl, hb⟩
  have HB := Lib.hid (HB.out.below hb)
  clear hb
  have z0 : w1.cell? ⟨w.heap.size, 0, none⟩ = some (.int .i64 r) := HB.out.box.cell 0
  have z1 : w1.cell? ⟨w.heap.size, 1, none⟩ = some (.int .i64 wt) := HB.out.box.cell 1
  have z2 : w1.cell? ⟨w.heap.size, 2, none⟩ = some (.int .i64 bk) := HB.out.box.cell 2
  have z3 : w1.cell? ⟨w.heap.size, 3, none⟩ = some (.int .i64 cy) := HB.out.box.cell 3
  have z4 : w1.cell? ⟨w.heap.size, 4, none⟩ = some (.string key) := HB.out.box.cell 4
  have z5 : w1.cell? ⟨w.heap.size, 5, none⟩ = some (.slice Ad ds.length cd) := HB.out.box.cell 5
  have z6 : w1.cell? ⟨w.heap.size, 6, none⟩ = some (.slice Ap ps.length cp) := HB.out.box.cell 6
  have z7 : w1.cell? ⟨w.heap.size, 7, none⟩ = some (.slice Ac cs.length cc) := HB.out.box.cell 7
  have z8 : w1.cell? ⟨w.heap.size, 8, none⟩ = some (.slice Ae es.length ce) := HB.out.box.cell 8
  go_wp2_with fail
  clear z0 z1 z2 z3 z4 z5 z6 z7 z8
  refine (great_any _ ⟨r, wt, bk, cy, key, ds, ps, cs, es⟩ _ _ _ _ HB.out.mat HSM.out).mono ?_
  rintro e w2 ⟨⟨b, rfl⟩, hb⟩
  have HB := Lib.hid (HB.out.below hb)
  clear hb
  cases b with
  | true =>
    go_wp2_with fail
    go_ret
    exact ⟨rfl, HB.out.old⟩
  | false =>
    have z0 : w2.cell? ⟨w.heap.size, 0, none⟩ = some (.int .i64 r) := HB.out.box.cell 0
    have z1 : w2.cell? ⟨w.heap.size, 1, none⟩ = some (.int .i64 wt) := HB.out.box.cell 1
    have z2 : w2.cell? ⟨w.heap.size, 2, none⟩ = some (.int .i64 bk) := HB.out.box.cell 2
    have z3 : w2.cell? ⟨w.heap.size, 3, none⟩ = some (.int .i64 cy) := HB.out.box.cell 3
    have z4 : w2.cell? ⟨w.heap.size, 4, none⟩ = some (.string key) := HB.out.box.cell 4
    have z5 : w2.cell? ⟨w.heap.size, 5, none⟩ = some (.slice Ad ds.length cd) := HB.out.box.cell 5
    have z6 : w2.cell? ⟨w.heap.size, 6, none⟩ = some (.slice Ap ps.length cp) := HB.out.box.cell 6
    have z7 : w2.cell? ⟨w.heap.size, 7, none⟩ = some (.slice Ac cs.length cc) := HB.out.box.cell 7
    have z8 : w2.cell? ⟨w.heap.size, 8, none⟩ = some (.slice Ae es.length ce) := HB.out.box.cell 8
    go_wp2_with fail
    clear z0 z1 z2 z3 z4 z5 z6 z7 z8
    refine (lRight_any _ ⟨r, wt, bk, cy, key, ds, ps, cs, es⟩ _ _ _ _ HB.out.mat HSM.out).mono ?_
    rintro e w3 ⟨b, rfl, hbr, hb⟩
    have HB := Lib.hid (HB.out.below hb)
    clear hb
    cases b with
    | false =>
      go_wp2_with fail
      go_ret
      exact ⟨rfl, HB.out.old⟩
    | true =>
      have HR := Lib.hid (hbr.1 rfl)
      clear hbr
      by_cases hn0 : cs.length = 0
      · have hn1 : ((cs.length : Int) == 0) = true := by rw [beq_iff_eq]; omega
        have z0 : w3.cell? ⟨w.heap.size, 0, none⟩ = some (.int .i64 r) := HB.out.box.cell 0
        have z1 : w3.cell? ⟨w.heap.size, 1, none⟩ = some (.int .i64 wt) := HB.out.box.cell 1
        have z2 : w3.cell? ⟨w.heap.size, 2, none⟩ = some (.int .i64 bk) := HB.out.box.cell 2
        have z3 : w3.cell? ⟨w.heap.size, 3, none⟩ = some (.int .i64 cy) := HB.out.box.cell 3
        have z4 : w3.cell? ⟨w.heap.size, 4, none⟩ = some (.string key) := HB.out.box.cell 4
        have z5 : w3.cell? ⟨w.heap.size, 5, none⟩ = some (.slice Ad ds.length cd) := HB.out.box.cell 5
        have z6 : w3.cell? ⟨w.heap.size, 6, none⟩ = some (.slice Ap ps.length cp) := HB.out.box.cell 6
        have z7 : w3.cell? ⟨w.heap.size, 7, none⟩ = some (.slice Ac cs.length cc) := HB.out.box.cell 7
        have z8 : w3.cell? ⟨w.heap.size, 8, none⟩ = some (.slice Ae es.length ce) := HB.out.box.cell 8
        go_wp2_with fail
        go_ret
        exact ⟨rfl, HB.out.old⟩
      obtain ⟨n, hn⟩ : ∃ n, n = cs.length := ⟨_, rfl⟩
      have hn1 : ((n : Int) == 0) = false := by rw [beq_eq_false_iff_ne]; omega
      have HN := Lib.hid hn
      obtain ⟨K, hK⟩ : ∃ K, K = k % n := ⟨_, rfl⟩
      have hk0 : (0 : Int) ≤ (k : Int) := by omega
      have hrem : Int.tmod (k : Int) (n : Int) = (K : Int) := by rw [hK, Int.tmod_eq_emod_of_nonneg hk0]; omega
      have hKn : K < n := by rw [hK]; exact Nat.mod_lt _ (by omega)
      have hnz : ¬ (n : Int) = 0 := by omega
      have hK0 : (0 : Int) ≤ (K : Int) := by omega
      have hKn1 : (K : Int) < (n : Int) := by omega
      obtain ⟨i0, hi0, hz0, hz1, hz2⟩ := cs_parts
      obtain ⟨c, hc⟩ : ∃ c, cs[K]? = some c := ⟨_, List.getElem?_eq_getElem (by omega)⟩
      have HC := Lib.hid hc
      obtain ⟨pA, pc, hcv0, -, -⟩ := HB.out.mat.2.2.1.2 c (List.mem_of_getElem? hc)
      obtain ⟨pn, hpn⟩ : ∃ pn, pn = c.pts.length := ⟨_, rfl⟩
      have hcv : c.v = .slice pA pn pc := by rw [hpn]; exact hcv0
      have HPN := Lib.hid hpn
      have HP4 : Hid (pn ≤ 4) := Lib.hid (by have h := (HR.out.2.2.2.2.1.2 K c hc).1.2.1; omega)
      clear hpn hcv0
      have hAc0 := HB.out.mat.2.2.1.1
      obtain ⟨cb, co, hAc, -, -⟩ := row_at hAc0 hc
      subst hAc
      clear hAc0
      obtain ⟨⟨p0, hp0⟩, ⟨d0, hd0⟩⟩ := some_there HR.out (by show 0 < cs.length; omega)
      obtain ⟨pb, po, hAp, -, -⟩ := row_at HB.out.mat.2.1 hp0
      subst hAp
      obtain ⟨db, do_, hAd, -, -⟩ := row_at HB.out.mat.1 hd0
      subst hAd
      have HPT : Hid (ps[0]? = some p0) := Lib.hid hp0
      have HDT : Hid (ds[0]? = some d0) := Lib.hid hd0
      have hps0 : 0 < ps.length := (List.getElem?_eq_some_iff.1 hp0).1
      have hps1 : (0 : Int) < (ps.length : Int) := by omega
      clear hp0 hd0
      clear hK hc
      have HB3x : Hid (HdIs w w.heap.size ⟨r, wt, bk, cy, key, ds, ps, cs, es⟩ (.slice (some ⟨db, do_, none⟩) ds.length cd) (.slice (some ⟨pb, po, none⟩) ps.length cp) (.slice (some ⟨cb, co, none⟩) n cc) (.slice Ae es.length ce) #[.int .i64 r, .int .i64 wt, .int .i64 bk, .int .i64 cy, .string key, .slice (some ⟨db, do_, none⟩) ds.length cd, .slice (some ⟨pb, po, none⟩) ps.length cp, .slice (some ⟨cb, co, none⟩) n cc, .slice Ae es.length ce] w3) := Lib.hid (by have h := HB.out; rw [← hn] at h; exact h)
      have HHB : Hid (HdIs w w.heap.size ⟨r, wt, bk, cy, key, ds, ps, cs, es⟩ (.slice (some ⟨db, do_, none⟩) ds.length cd) (.slice (some ⟨pb, po, none⟩) ps.length cp) (.slice (some ⟨cb, co, none⟩) n cc) (.slice Ae es.length ce) #[.int .i64 r, .int .i64 wt, .int .i64 bk, .int .i64 cy, .string key, .slice (some ⟨db, do_, none⟩) ds.length cd, .slice (some ⟨pb, po, none⟩) ps.length cp, .slice (some ⟨cb, co, none⟩) n cc, .slice Ae es.length ce] w3) := Lib.hid (by have h := HB.out; rw [← hn] at h; exact h)
      clear hn hn0 HB HB3x
      have hn8 : n ≤ 8 := by have := HR.out.2.2.2.2.1.1; simp only at this; rw [HN.out]; exact this
      have HB3 := HHB
      have z0 : w3.cell? ⟨w.heap.size, 0, none⟩ = some (.int .i64 r) := HHB.out.box.cell 0
      have z1 : w3.cell? ⟨w.heap.size, 1, none⟩ = some (.int .i64 wt) := HHB.out.box.cell 1
      have z2 : w3.cell? ⟨w.heap.size, 2, none⟩ = some (.int .i64 bk) := HHB.out.box.cell 2
      have z3 : w3.cell? ⟨w.heap.size, 3, none⟩ = some (.int .i64 cy) := HHB.out.box.cell 3
      have z4 : w3.cell? ⟨w.heap.size, 4, none⟩ = some (.string key) := HHB.out.box.cell 4
      have z5 : w3.cell? ⟨w.heap.size, 5, none⟩ = some (.slice (some ⟨db, do_, none⟩) ds.length cd) := HHB.out.box.cell 5
      have z6 : w3.cell? ⟨w.heap.size, 6, none⟩ = some (.slice (some ⟨pb, po, none⟩) ps.length cp) := HHB.out.box.cell 6
      have z7 : w3.cell? ⟨w.heap.size, 7, none⟩ = some (.slice (some ⟨cb, co, none⟩) n cc) := HHB.out.box.cell 7
      have z8 : w3.cell? ⟨w.heap.size, 8, none⟩ = some (.slice Ae es.length ce) := HHB.out.box.cell 8
      go_upto_region 6 with fail
      clear z0 z1 z2 z3 z4 z5 z6 z7 z8
      have HC3 : Hid (Below w3.heap.size w3 (w3.alloc (.cells #[.int .i64 r, .int .i64 wt, .int .i64 bk, .int .i64 cy, .string key, .slice (some ⟨db, do_, none⟩) ds.length cd, .slice (some ⟨pb, po, none⟩) ps.length cp, .slice (some ⟨cb, co, none⟩) n cc, .slice Ae es.length ce] 27))) := Lib.hid ((Below.refl _ _).alloc (Nat.le_refl _) _)
      have HA := Lib.hid (Words.Blk.new w3 27 #[.int .i64 r, .int .i64 wt, .int .i64 bk, .int .i64 cy, .string key, .slice (some ⟨db, do_, none⟩) ds.length cd, .slice (some ⟨pb, po, none⟩) ps.length cp, .slice (some ⟨cb, co, none⟩) n cc, .slice Ae es.length ce])
      have HHB := Lib.hid (HHB.out.alloc (.cells #[.int .i64 r, .int .i64 wt, .int .i64 bk, .int .i64 cy, .string key, .slice (some ⟨db, do_, none⟩) ds.length cd, .slice (some ⟨pb, po, none⟩) ps.length cp, .slice (some ⟨cb, co, none⟩) n cc, .slice Ae es.length ce] 27))
      generalize w3.alloc (.cells #[.int .i64 r, .int .i64 wt, .int .i64 bk, .int .i64 cy, .string key, .slice (some ⟨db, do_, none⟩) ds.length cd, .slice (some ⟨pb, po, none⟩) ps.length cp, .slice (some ⟨cb, co, none⟩) n cc, .slice Ae es.length ce] 27) = waa at *
      obtain ⟨ga, hg⟩ : ∃ g, g = w3.heap.size := ⟨_, rfl⟩
      have HGA := Lib.hid (show w3.heap.size ≤ ga by omega)
      rw [← hg] at HA ⊢
      clear hg
      have HRD := Lib.hid (css_reads (by exact ((HHB.out.alloc (.cells #[] 43)).mat.2.2.1.1)) HN.out)
      have HO := Lib.hid (css_one HHB.out.mat.2.2.1.2)
      have HOZ := Lib.hid (own_zero_row waa 43 5)
      have z7 : ∀ ob : Obj, (waa.alloc ob).cell? ⟨w.heap.size, 7, none⟩ = some (.slice (some ⟨cb, co, none⟩) n cc) := fun ob => (HHB.out.alloc ob).box.cell 7
      go_upto_region 7 with (at_builtin; refine Words.wpList_append_any _ rfl (.tmp 33) (.tmp 35) _ rfl waa.heap.size 43 i0 _ 5 64 Tryd.underlying24 hi0 hz0 hz1 hz2 rfl (by omega) (.slice (some ⟨waa.heap.size, 0, none⟩) 0 0) 0 [] rfl HOZ.out (waa.alloc (.cells #[] 43)).heap.size (some ⟨cb, co, none⟩) n cc (cs.flatMap Cs.cells) rfl HRD.out HO.out (by simp only [maxLen]; omega) (by omega) (by simp) ?_; intro v' w4a ho hg _; rw [Nat.zero_add, List.nil_append] at ho; obtain ⟨rba, rca, rfl, hrb⟩ := own_some ho (by omega); have HOA := Lib.hid ho; have HAA := Lib.hid ((HA.out.alloc (.cells #[] 43)).grown hg (by have := HA.out.lt; intro e; have e2 : some ga = some waa.heap.size := e; injection e2 with e2; omega)); have HBL : Hid (Below waa.heap.size waa w4a) := Lib.hid (((Below.refl _ _).alloc (Nat.le_refl _) _).grown hg (by simp) (fun k hk => by have hk2 : some waa.heap.size = some k := hk; injection hk2 with hk2; omega)); have c7 : w4a.cell? ⟨ga, 7, none⟩ = some (.slice (some ⟨cb, co, none⟩) n cc) := HAA.out.cell 7; have f7 : w4a.frozen? ⟨ga, 7, none⟩ = false := HAA.out.frozen 7; clear ho hg)
      have HCB : Hid (Below w3.heap.size w3 (w4a.setCell ⟨ga, 7, none⟩ (.slice (some ⟨rba, 0, none⟩) n rca))) := Lib.hid ((HC3.out.trans (HBL.out.mono HC3.out.size)).setCell (p := ⟨ga, 7, none⟩) HGA.out _)
      have HAS : Hid (Words.Blk (w4a.setCell ⟨ga, 7, none⟩ (.slice (some ⟨rba, 0, none⟩) n rca)) ga 27 #[.int .i64 r, .int .i64 wt, .int .i64 bk, .int .i64 cy, .string key, .slice (some ⟨db, do_, none⟩) ds.length cd, .slice (some ⟨pb, po, none⟩) ps.length cp, .slice (some ⟨rba, 0, none⟩) n rca, .slice Ae es.length ce]) := Lib.hid (HAA.out.set_ 7 _)
      have HOS : Hid ((w4a.setCell ⟨ga, 7, none⟩ (.slice (some ⟨rba, 0, none⟩) n rca)).ownsRow waa.heap.size 43 5 (.slice (some ⟨rba, 0, none⟩) n rca) n (cs.flatMap Cs.cells)) := Lib.hid (HOA.out.kept (grown_set w4a ga 7 _) (.inr (Words.own_blk_ne HOA.out HAA.out (by decide))))
      clear HAA HOA HBL c7 f7 HRD HOZ z7 HA HO
      generalize (w4a.setCell ⟨ga, 7, none⟩ (.slice (some ⟨rba, 0, none⟩) n rca)) = w5a at *
      have b7 : w5a.cell? ⟨ga, 7, none⟩ = some (.slice (some ⟨rba, 0, none⟩) n rca) := HAS.out.cell 7
      obtain ⟨e4, e1, e0⟩ := own_cells HOS.out HN.out HC.out
      have fr1 : w5a.frozen? ⟨rba, K * 5 + 1, none⟩ = false := HOS.out.frozenAt _
      rw [hcv] at e4
      have hwp : wrap64 ((pn : Int) + 1) = (pn : Int) + 1 := by have h4 := HP4.out; (unfold wrap64; omega)
      go_region
      rw [hwp]
      have hst := HOS.out.stored (K * 5 + 1) (.int .i64 ((pn : Int) + 1))
      have hks : Words.Blk (w5a.setCell ⟨rba, K * 5 + 1, none⟩ (.int .i64 ((pn : Int) + 1))) ga 27 #[.int .i64 r, .int .i64 wt, .int .i64 bk, .int .i64 cy, .string key, .slice (some ⟨db, do_, none⟩) ds.length cd, .slice (some ⟨pb, po, none⟩) ps.length cp, .slice (some ⟨rba, 0, none⟩) n rca, .slice Ae es.length ce] := HAS.out.grown hst.2 (fun e => Words.own_blk_ne HOS.out HAS.out (by decide) e.symm)
      have hb6 : Below w3.heap.size w3 (w5a.setCell ⟨rba, K * 5 + 1, none⟩ (.int .i64 ((pn : Int) + 1))) := HCB.out.setCell (p := ⟨rba, K * 5 + 1, none⟩) (by have := HC3.out.size; show w3.heap.size ≤ rba; omega) _
      have hh6 := HB3.out.below hb6
      have hm6 : MatAt (w5a.setCell ⟨rba, K * 5 + 1, none⟩ (.int .i64 ((pn : Int) + 1))) { (⟨r, wt, bk, cy, key, ds, ps, cs, es⟩ : Mat) with css := cs.set K { c with votes := (pn : Int) + 1 } } (.slice (some ⟨db, do_, none⟩) ds.length cd) (.slice (some ⟨pb, po, none⟩) ps.length cp) (.slice (some ⟨rba, 0, none⟩) n rca) (.slice Ae es.length ce) :=
        mat_set hh6.mat (hh6.mat.2.2.1.2 c (List.mem_of_getElem? HC.out)) (by
          have h := hst.1
          have hf := flat_set (d := 1) (c := c) (c' := { c with votes := (pn : Int) + 1 }) (by decide) rfl cs K HC.out
          skip
          rw [hf] at h
          exact LawFrame.RowsAt.of_own Cs.cells_len (by decide) h)
      have HMa : Hid (MatAt ((w5a.setCell ⟨rba, K * 5 + 1, none⟩ (.int .i64 ((pn : Int) + 1))).drew) { (⟨r, wt, bk, cy, key, ds, ps, cs, es⟩ : Mat) with css := cs.set K { c with votes := (pn : Int) + 1 } } (.slice (some ⟨db, do_, none⟩) ds.length cd) (.slice (some ⟨pb, po, none⟩) ps.length cp) (.slice (some ⟨rba, 0, none⟩) n rca) (.slice Ae es.length ce)) := Lib.hid (hm6.below (below_drewn (Below.refl _ _) 1))
      have HKa : Hid (Words.Blk ((w5a.setCell ⟨rba, K * 5 + 1, none⟩ (.int .i64 ((pn : Int) + 1))).drew) _ _ _) := Lib.hid (hks.below (below_drewn (Below.refl _ _) 1) hks.lt)
      have HHB : Hid (HdIs _ _ _ _ _ _ _ _ ((w5a.setCell ⟨rba, K * 5 + 1, none⟩ (.int .i64 ((pn : Int) + 1))).drew)) := Lib.hid (hh6.below (below_drewn (Below.refl _ _) 1))
      clear hst hks hb6 hh6 hm6 HB3 HCB HAS HOS HC3 HGA fr1 e4 e1 e0 b7 hwp
      generalize (w5a.setCell ⟨rba, K * 5 + 1, none⟩ (.int .i64 ((pn : Int) + 1))).drew = w6a at *
      have HB3 := HHB
      have z0 : w6a.cell? ⟨w.heap.size, 0, none⟩ = some (.int .i64 r) := HHB.out.box.cell 0
      have z1 : w6a.cell? ⟨w.heap.size, 1, none⟩ = some (.int .i64 wt) := HHB.out.box.cell 1
      have z2 : w6a.cell? ⟨w.heap.size, 2, none⟩ = some (.int .i64 bk) := HHB.out.box.cell 2
      have z3 : w6a.cell? ⟨w.heap.size, 3, none⟩ = some (.int .i64 cy) := HHB.out.box.cell 3
      have z4 : w6a.cell? ⟨w.heap.size, 4, none⟩ = some (.string key) := HHB.out.box.cell 4
      have z5 : w6a.cell? ⟨w.heap.size, 5, none⟩ = some (.slice (some ⟨db, do_, none⟩) ds.length cd) := HHB.out.box.cell 5
      have z6 : w6a.cell? ⟨w.heap.size, 6, none⟩ = some (.slice (some ⟨pb, po, none⟩) ps.length cp) := HHB.out.box.cell 6
      have z7 : w6a.cell? ⟨w.heap.size, 7, none⟩ = some (.slice (some ⟨cb, co, none⟩) n cc) := HHB.out.box.cell 7
      have z8 : w6a.cell? ⟨w.heap.size, 8, none⟩ = some (.slice Ae es.length ce) := HHB.out.box.cell 8
      go_upto_region 9 with fail
      clear z0 z1 z2 z3 z4 z5 z6 z7 z8
      have HC3 : Hid (Below w6a.heap.size w6a (w6a.alloc (.cells #[.int .i64 r, .int .i64 wt, .int .i64 bk, .int .i64 cy, .string key, .slice (some ⟨db, do_, none⟩) ds.length cd, .slice (some ⟨pb, po, none⟩) ps.length cp, .slice (some ⟨cb, co, none⟩) n cc, .slice Ae es.length ce] 27))) := Lib.hid ((Below.refl _ _).alloc (Nat.le_refl _) _)
      have HA := Lib.hid (Words.Blk.new w6a 27 #[.int .i64 r, .int .i64 wt, .int .i64 bk, .int .i64 cy, .string key, .slice (some ⟨db, do_, none⟩) ds.length cd, .slice (some ⟨pb, po, none⟩) ps.length cp, .slice (some ⟨cb, co, none⟩) n cc, .slice Ae es.length ce])
      have HHB := Lib.hid (HHB.out.alloc (.cells #[.int .i64 r, .int .i64 wt, .int .i64 bk, .int .i64 cy, .string key, .slice (some ⟨db, do_, none⟩) ds.length cd, .slice (some ⟨pb, po, none⟩) ps.length cp, .slice (some ⟨cb, co, none⟩) n cc, .slice Ae es.length ce] 27))
      generalize w6a.alloc (.cells #[.int .i64 r, .int .i64 wt, .int .i64 bk, .int .i64 cy, .string key, .slice (some ⟨db, do_, none⟩) ds.length cd, .slice (some ⟨pb, po, none⟩) ps.length cp, .slice (some ⟨cb, co, none⟩) n cc, .slice Ae es.length ce] 27) = wab at *
      obtain ⟨gb, hg⟩ : ∃ g, g = w6a.heap.size := ⟨_, rfl⟩
      have HGA := Lib.hid (show w6a.heap.size ≤ gb by omega)
      rw [← hg] at HA ⊢
      clear hg
      have HRD := Lib.hid (css_reads (by exact ((HHB.out.alloc (.cells #[] 43)).mat.2.2.1.1)) HN.out)
      have HO := Lib.hid (css_one HHB.out.mat.2.2.1.2)
      have HOZ := Lib.hid (own_zero_row wab 43 5)
      have z7 : ∀ ob : Obj, (wab.alloc ob).cell? ⟨w.heap.size, 7, none⟩ = some (.slice (some ⟨cb, co, none⟩) n cc) := fun ob => (HHB.out.alloc ob).box.cell 7
      go_upto_region 10 with (at_builtin; refine Words.wpList_append_any _ rfl (.tmp 52) (.tmp 54) _ rfl wab.heap.size 43 i0 _ 5 64 Tryd.underlying24 hi0 hz0 hz1 hz2 rfl (by omega) (.slice (some ⟨wab.heap.size, 0, none⟩) 0 0) 0 [] rfl HOZ.out (wab.alloc (.cells #[] 43)).heap.size (some ⟨cb, co, none⟩) n cc (cs.flatMap Cs.cells) rfl HRD.out HO.out (by simp only [maxLen]; omega) (by omega) (by simp) ?_; intro v' w4b ho hg _; rw [Nat.zero_add, List.nil_append] at ho; obtain ⟨rbb, rcb, rfl, hrb⟩ := own_some ho (by omega); have HOA := Lib.hid ho; have HAA := Lib.hid ((HA.out.alloc (.cells #[] 43)).grown hg (by have := HA.out.lt; intro e; have e2 : some gb = some wab.heap.size := e; injection e2 with e2; omega)); have HBL : Hid (Below wab.heap.size wab w4b) := Lib.hid (((Below.refl _ _).alloc (Nat.le_refl _) _).grown hg (by simp) (fun k hk => by have hk2 : some wab.heap.size = some k := hk; injection hk2 with hk2; omega)); have c7 : w4b.cell? ⟨gb, 7, none⟩ = some (.slice (some ⟨cb, co, none⟩) n cc) := HAA.out.cell 7; have f7 : w4b.frozen? ⟨gb, 7, none⟩ = false := HAA.out.frozen 7; clear ho hg)
      have HCB : Hid (Below w6a.heap.size w6a (w4b.setCell ⟨gb, 7, none⟩ (.slice (some ⟨rbb, 0, none⟩) n rcb))) := Lib.hid ((HC3.out.trans (HBL.out.mono HC3.out.size)).setCell (p := ⟨gb, 7, none⟩) HGA.out _)
      have HAS : Hid (Words.Blk (w4b.setCell ⟨gb, 7, none⟩ (.slice (some ⟨rbb, 0, none⟩) n rcb)) gb 27 #[.int .i64 r, .int .i64 wt, .int .i64 bk, .int .i64 cy, .string key, .slice (some ⟨db, do_, none⟩) ds.length cd, .slice (some ⟨pb, po, none⟩) ps.length cp, .slice (some ⟨rbb, 0, none⟩) n rcb, .slice Ae es.length ce]) := Lib.hid (HAA.out.set_ 7 _)
      have HOS : Hid ((w4b.setCell ⟨gb, 7, none⟩ (.slice (some ⟨rbb, 0, none⟩) n rcb)).ownsRow wab.heap.size 43 5 (.slice (some ⟨rbb, 0, none⟩) n rcb) n (cs.flatMap Cs.cells)) := Lib.hid (HOA.out.kept (grown_set w4b gb 7 _) (.inr (Words.own_blk_ne HOA.out HAA.out (by decide))))
      clear HAA HOA HBL c7 f7 HRD HOZ z7 HA HO
      generalize (w4b.setCell ⟨gb, 7, none⟩ (.slice (some ⟨rbb, 0, none⟩) n rcb)) = w5b at *
      have b7 : w5b.cell? ⟨gb, 7, none⟩ = some (.slice (some ⟨rbb, 0, none⟩) n rcb) := HAS.out.cell 7
      obtain ⟨e4, e1, e0⟩ := own_cells HOS.out HN.out HC.out
      have fr1 : w5b.frozen? ⟨rbb, K * 5, none⟩ = false := HOS.out.frozenAt _
      have b6 : w5b.cell? ⟨w.heap.size, 6, none⟩ = some (.slice (some ⟨pb, po, none⟩) ps.length cp) := (HB3.out.below HCB.out).box.cell 6
      have b0 : w5b.cell? ⟨pb, po, none⟩ = some (.string p0.name) := pt_name (HB3.out.below HCB.out).mat.2.1 HPT.out
      go_region
      have hst := HOS.out.stored (K * 5) (.string p0.name)
      have hks : Words.Blk (w5b.setCell ⟨rbb, K * 5, none⟩ (.string p0.name)) gb 27 #[.int .i64 r, .int .i64 wt, .int .i64 bk, .int .i64 cy, .string key, .slice (some ⟨db, do_, none⟩) ds.length cd, .slice (some ⟨pb, po, none⟩) ps.length cp, .slice (some ⟨rbb, 0, none⟩) n rcb, .slice Ae es.length ce] := HAS.out.grown hst.2 (fun e => Words.own_blk_ne HOS.out HAS.out (by decide) e.symm)
      have hb6 : Below w6a.heap.size w6a (w5b.setCell ⟨rbb, K * 5, none⟩ (.string p0.name)) := HCB.out.setCell (p := ⟨rbb, K * 5, none⟩) (by have := HC3.out.size; show w6a.heap.size ≤ rbb; omega) _
      have hh6 := HB3.out.below hb6
      have hm6 : MatAt (w5b.setCell ⟨rbb, K * 5, none⟩ (.string p0.name)) { (⟨r, wt, bk, cy, key, ds, ps, cs, es⟩ : Mat) with css := cs.set K { c with name := p0.name } } (.slice (some ⟨db, do_, none⟩) ds.length cd) (.slice (some ⟨pb, po, none⟩) ps.length cp) (.slice (some ⟨rbb, 0, none⟩) n rcb) (.slice Ae es.length ce) :=
        mat_set hh6.mat (hh6.mat.2.2.1.2 c (List.mem_of_getElem? HC.out)) (by
          have h := hst.1
          have hf := flat_set (d := 0) (c := c) (c' := { c with name := p0.name }) (by decide) rfl cs K HC.out
          rw [Nat.add_zero] at hf
          rw [hf] at h
          exact LawFrame.RowsAt.of_own Cs.cells_len (by decide) h)
      have HMb : Hid (MatAt ((w5b.setCell ⟨rbb, K * 5, none⟩ (.string p0.name)).drew) { (⟨r, wt, bk, cy, key, ds, ps, cs, es⟩ : Mat) with css := cs.set K { c with name := p0.name } } (.slice (some ⟨db, do_, none⟩) ds.length cd) (.slice (some ⟨pb, po, none⟩) ps.length cp) (.slice (some ⟨rbb, 0, none⟩) n rcb) (.slice Ae es.length ce)) := Lib.hid (hm6.below (below_drewn (Below.refl _ _) 1))
      have HKb : Hid (Words.Blk ((w5b.setCell ⟨rbb, K * 5, none⟩ (.string p0.name)).drew) _ _ _) := Lib.hid (hks.below (below_drewn (Below.refl _ _) 1) hks.lt)
      have HHB : Hid (HdIs _ _ _ _ _ _ _ _ ((w5b.setCell ⟨rbb, K * 5, none⟩ (.string p0.name)).drew)) := Lib.hid (hh6.below (below_drewn (Below.refl _ _) 1))
      have HMa : Hid (MatAt ((w5b.setCell ⟨rbb, K * 5, none⟩ (.string p0.name)).drew) _ _ _ _ _) := Lib.hid (HMa.out.below (below_drewn hb6 1))
      have HKa : Hid (Words.Blk ((w5b.setCell ⟨rbb, K * 5, none⟩ (.string p0.name)).drew) _ _ _) := Lib.hid (HKa.out.below (below_drewn hb6 1) HKa.out.lt)
      clear hst hks hb6 hh6 hm6 HB3 HCB HAS HOS HC3 HGA fr1 e4 e1 e0 b7 b6 b0
      generalize (w5b.setCell ⟨rbb, K * 5, none⟩ (.string p0.name)).drew = w6b at *
      have HB3 := HHB
      have z0 : w6b.cell? ⟨w.heap.size, 0, none⟩ = some (.int .i64 r) := HHB.out.box.cell 0
      have z1 : w6b.cell? ⟨w.heap.size, 1, none⟩ = some (.int .i64 wt) := HHB.out.box.cell 1
      have z2 : w6b.cell? ⟨w.heap.size, 2, none⟩ = some (.int .i64 bk) := HHB.out.box.cell 2
      have z3 : w6b.cell? ⟨w.heap.size, 3, none⟩ = some (.int .i64 cy) := HHB.out.box.cell 3
      have z4 : w6b.cell? ⟨w.heap.size, 4, none⟩ = some (.string key) := HHB.out.box.cell 4
      have z5 : w6b.cell? ⟨w.heap.size, 5, none⟩ = some (.slice (some ⟨db, do_, none⟩) ds.length cd) := HHB.out.box.cell 5
      have z6 : w6b.cell? ⟨w.heap.size, 6, none⟩ = some (.slice (some ⟨pb, po, none⟩) ps.length cp) := HHB.out.box.cell 6
      have z7 : w6b.cell? ⟨w.heap.size, 7, none⟩ = some (.slice (some ⟨cb, co, none⟩) n cc) := HHB.out.box.cell 7
      have z8 : w6b.cell? ⟨w.heap.size, 8, none⟩ = some (.slice Ae es.length ce) := HHB.out.box.cell 8
      go_upto_region 12 with fail
      clear z0 z1 z2 z3 z4 z5 z6 z7 z8
      have HC3 : Hid (Below w6b.heap.size w6b (w6b.alloc (.cells #[.int .i64 r, .int .i64 wt, .int .i64 bk, .int .i64 cy, .string key, .slice (some ⟨db, do_, none⟩) ds.length cd, .slice (some ⟨pb, po, none⟩) ps.length cp, .slice (some ⟨cb, co, none⟩) n cc, .slice Ae es.length ce] 27))) := Lib.hid ((Below.refl _ _).alloc (Nat.le_refl _) _)
      have HA := Lib.hid (Words.Blk.new w6b 27 #[.int .i64 r, .int .i64 wt, .int .i64 bk, .int .i64 cy, .string key, .slice (some ⟨db, do_, none⟩) ds.length cd, .slice (some ⟨pb, po, none⟩) ps.length cp, .slice (some ⟨cb, co, none⟩) n cc, .slice Ae es.length ce])
      have HHB := Lib.hid (HHB.out.alloc (.cells #[.int .i64 r, .int .i64 wt, .int .i64 bk, .int .i64 cy, .string key, .slice (some ⟨db, do_, none⟩) ds.length cd, .slice (some ⟨pb, po, none⟩) ps.length cp, .slice (some ⟨cb, co, none⟩) n cc, .slice Ae es.length ce] 27))
      generalize w6b.alloc (.cells #[.int .i64 r, .int .i64 wt, .int .i64 bk, .int .i64 cy, .string key, .slice (some ⟨db, do_, none⟩) ds.length cd, .slice (some ⟨pb, po, none⟩) ps.length cp, .slice (some ⟨cb, co, none⟩) n cc, .slice Ae es.length ce] 27) = wac at *
      obtain ⟨gc, hg⟩ : ∃ g, g = w6b.heap.size := ⟨_, rfl⟩
      have HGA := Lib.hid (show w6b.heap.size ≤ gc by omega)
      rw [← hg] at HA ⊢
      clear hg
      have HRD := Lib.hid (css_reads (by exact ((HHB.out.alloc (.cells #[] 43)).mat.2.2.1.1)) HN.out)
      have HO := Lib.hid (css_one HHB.out.mat.2.2.1.2)
      have HOZ := Lib.hid (own_zero_row wac 43 5)
      have z7 : ∀ ob : Obj, (wac.alloc ob).cell? ⟨w.heap.size, 7, none⟩ = some (.slice (some ⟨cb, co, none⟩) n cc) := fun ob => (HHB.out.alloc ob).box.cell 7
      go_upto_region 13 with (at_builtin; refine Words.wpList_append_any _ rfl (.tmp 68) (.tmp 70) _ rfl wac.heap.size 43 i0 _ 5 64 Tryd.underlying24 hi0 hz0 hz1 hz2 rfl (by omega) (.slice (some ⟨wac.heap.size, 0, none⟩) 0 0) 0 [] rfl HOZ.out (wac.alloc (.cells #[] 43)).heap.size (some ⟨cb, co, none⟩) n cc (cs.flatMap Cs.cells) rfl HRD.out HO.out (by simp only [maxLen]; omega) (by omega) (by simp) ?_; intro v' w4c ho hg _; rw [Nat.zero_add, List.nil_append] at ho; obtain ⟨rbc, rcc, rfl, hrb⟩ := own_some ho (by omega); have HOA := Lib.hid ho; have HAA := Lib.hid ((HA.out.alloc (.cells #[] 43)).grown hg (by have := HA.out.lt; intro e; have e2 : some gc = some wac.heap.size := e; injection e2 with e2; omega)); have HBL : Hid (Below wac.heap.size wac w4c) := Lib.hid (((Below.refl _ _).alloc (Nat.le_refl _) _).grown hg (by simp) (fun k hk => by have hk2 : some wac.heap.size = some k := hk; injection hk2 with hk2; omega)); have c7 : w4c.cell? ⟨gc, 7, none⟩ = some (.slice (some ⟨cb, co, none⟩) n cc) := HAA.out.cell 7; have f7 : w4c.frozen? ⟨gc, 7, none⟩ = false := HAA.out.frozen 7; clear ho hg)
      have HCB : Hid (Below w6b.heap.size w6b (w4c.setCell ⟨gc, 7, none⟩ (.slice (some ⟨rbc, 0, none⟩) n rcc))) := Lib.hid ((HC3.out.trans (HBL.out.mono HC3.out.size)).setCell (p := ⟨gc, 7, none⟩) HGA.out _)
      have HAS : Hid (Words.Blk (w4c.setCell ⟨gc, 7, none⟩ (.slice (some ⟨rbc, 0, none⟩) n rcc)) gc 27 #[.int .i64 r, .int .i64 wt, .int .i64 bk, .int .i64 cy, .string key, .slice (some ⟨db, do_, none⟩) ds.length cd, .slice (some ⟨pb, po, none⟩) ps.length cp, .slice (some ⟨rbc, 0, none⟩) n rcc, .slice Ae es.length ce]) := Lib.hid (HAA.out.set_ 7 _)
      have HOS : Hid ((w4c.setCell ⟨gc, 7, none⟩ (.slice (some ⟨rbc, 0, none⟩) n rcc)).ownsRow wac.heap.size 43 5 (.slice (some ⟨rbc, 0, none⟩) n rcc) n (cs.flatMap Cs.cells)) := Lib.hid (HOA.out.kept (grown_set w4c gc 7 _) (.inr (Words.own_blk_ne HOA.out HAA.out (by decide))))
      clear HAA HOA HBL c7 f7 HRD HOZ z7 HA HO
      generalize (w4c.setCell ⟨gc, 7, none⟩ (.slice (some ⟨rbc, 0, none⟩) n rcc)) = w5c at *
      have hcb : ∀ ob : Obj, Below w6b.heap.size w6b (w5c.alloc ob) := fun ob => HCB.out.alloc HCB.out.size ob
      have b7 : w5c.cell? ⟨gc, 7, none⟩ = some (.slice (some ⟨rbc, 0, none⟩) n rcc) := HAS.out.cell 7
      have b6 : w5c.cell? ⟨w.heap.size, 6, none⟩ = some (.slice (some ⟨pb, po, none⟩) ps.length cp) := (HB3.out.below HCB.out).box.cell 6
      have e4 : ∀ ob : Obj, (w5c.alloc ob).cell? ⟨rbc, K * 5 + 4, none⟩ = some c.v := fun ob => (own_cells (HOS.out.alloc ob) HN.out HC.out).1
      have fr4 : ∀ ob : Obj, (w5c.alloc ob).frozen? ⟨rbc, K * 5 + 4, none⟩ = false := fun ob => (HOS.out.alloc ob).frozenAt _
      have HOP := Lib.hid (HOS.out.alloc (.cells #[.int .i64 (ps.length : Int)] 3))
      go_upto_region 14 with fail
      have hst := HOP.out.stored (K * 5 + 4) (.slice (some ⟨w5c.heap.size, 0, none⟩) 1 1)
      have hks : Words.Blk ((w5c.alloc (.cells #[.int .i64 (ps.length : Int)] 3)).setCell ⟨rbc, K * 5 + 4, none⟩ (.slice (some ⟨w5c.heap.size, 0, none⟩) 1 1)) gc 27 #[.int .i64 r, .int .i64 wt, .int .i64 bk, .int .i64 cy, .string key, .slice (some ⟨db, do_, none⟩) ds.length cd, .slice (some ⟨pb, po, none⟩) ps.length cp, .slice (some ⟨rbc, 0, none⟩) n rcc, .slice Ae es.length ce] := (HAS.out.alloc _).grown hst.2 (fun e => Words.own_blk_ne HOP.out (HAS.out.alloc _) (by decide) e.symm)
      have hb6 : Below w6b.heap.size w6b ((w5c.alloc (.cells #[.int .i64 (ps.length : Int)] 3)).setCell ⟨rbc, K * 5 + 4, none⟩ (.slice (some ⟨w5c.heap.size, 0, none⟩) 1 1)) := (hcb _).setCell (p := ⟨rbc, K * 5 + 4, none⟩) (by have := HC3.out.size; show w6b.heap.size ≤ rbc; omega) _
      have hh6 := HB3.out.below hb6
      have hpn := int_kept w5c (ps.length : Int) HOP.out (v := (.slice (some ⟨w5c.heap.size, 0, none⟩) 1 1)) (K * 5 + 4)
      have hm6 : MatAt ((w5c.alloc (.cells #[.int .i64 (ps.length : Int)] 3)).setCell ⟨rbc, K * 5 + 4, none⟩ (.slice (some ⟨w5c.heap.size, 0, none⟩) 1 1)) { (⟨r, wt, bk, cy, key, ds, ps, cs, es⟩ : Mat) with css := cs.set K { c with v := .slice (some ⟨w5c.heap.size, 0, none⟩) 1 1, pts := [(ps.length : Int)] } } (.slice (some ⟨db, do_, none⟩) ds.length cd) (.slice (some ⟨pb, po, none⟩) ps.length cp) (.slice (some ⟨rbc, 0, none⟩) n rcc) (.slice Ae es.length ce) :=
        mat_set hh6.mat hpn (by
          have h := hst.1
          have hf := flat_set (d := 4) (c := c) (c' := { c with v := .slice (some ⟨w5c.heap.size, 0, none⟩) 1 1, pts := [(ps.length : Int)] }) (by decide) rfl cs K HC.out
          skip
          rw [hf] at h
          exact LawFrame.RowsAt.of_own Cs.cells_len (by decide) h)
      have HMc := Lib.hid hm6
      have HKc := Lib.hid hks
      have HHB := Lib.hid hh6
      have HMa := Lib.hid (HMa.out.below hb6)
      have HKa := Lib.hid (HKa.out.below hb6 HKa.out.lt)
      have HMb := Lib.hid (HMb.out.below hb6)
      have HKb := Lib.hid (HKb.out.below hb6 HKb.out.lt)
      clear hst hks hb6 hh6 hm6 HB3 HCB HAS HOS HC3 HGA e4 fr4 b7 b6 hcb HOP hpn
      generalize ((w5c.alloc (.cells #[.int .i64 (ps.length : Int)] 3)).setCell ⟨rbc, K * 5 + 4, none⟩ (.slice (some ⟨w5c.heap.size, 0, none⟩) 1 1)) = w6c at *
      have HB3 := HHB
      have z0 : w6c.cell? ⟨w.heap.size, 0, none⟩ = some (.int .i64 r) := HHB.out.box.cell 0
      have z1 : w6c.cell? ⟨w.heap.size, 1, none⟩ = some (.int .i64 wt) := HHB.out.box.cell 1
      have z2 : w6c.cell? ⟨w.heap.size, 2, none⟩ = some (.int .i64 bk) := HHB.out.box.cell 2
      have z3 : w6c.cell? ⟨w.heap.size, 3, none⟩ = some (.int .i64 cy) := HHB.out.box.cell 3
      have z4 : w6c.cell? ⟨w.heap.size, 4, none⟩ = some (.string key) := HHB.out.box.cell 4
      have z5 : w6c.cell? ⟨w.heap.size, 5, none⟩ = some (.slice (some ⟨db, do_, none⟩) ds.length cd) := HHB.out.box.cell 5
      have z6 : w6c.cell? ⟨w.heap.size, 6, none⟩ = some (.slice (some ⟨pb, po, none⟩) ps.length cp) := HHB.out.box.cell 6
      have z7 : w6c.cell? ⟨w.heap.size, 7, none⟩ = some (.slice (some ⟨cb, co, none⟩) n cc) := HHB.out.box.cell 7
      have z8 : w6c.cell? ⟨w.heap.size, 8, none⟩ = some (.slice Ae es.length ce) := HHB.out.box.cell 8
      go_upto_region 15 with fail
      clear z0 z1 z2 z3 z4 z5 z6 z7 z8
      have HC3 : Hid (Below w6c.heap.size w6c (w6c.alloc (.cells #[.int .i64 r, .int .i64 wt, .int .i64 bk, .int .i64 cy, .string key, .slice (some ⟨db, do_, none⟩) ds.length cd, .slice (some ⟨pb, po, none⟩) ps.length cp, .slice (some ⟨cb, co, none⟩) n cc, .slice Ae es.length ce] 27))) := Lib.hid ((Below.refl _ _).alloc (Nat.le_refl _) _)
      have HA := Lib.hid (Words.Blk.new w6c 27 #[.int .i64 r, .int .i64 wt, .int .i64 bk, .int .i64 cy, .string key, .slice (some ⟨db, do_, none⟩) ds.length cd, .slice (some ⟨pb, po, none⟩) ps.length cp, .slice (some ⟨cb, co, none⟩) n cc, .slice Ae es.length ce])
      have HHB := Lib.hid (HHB.out.alloc (.cells #[.int .i64 r, .int .i64 wt, .int .i64 bk, .int .i64 cy, .string key, .slice (some ⟨db, do_, none⟩) ds.length cd, .slice (some ⟨pb, po, none⟩) ps.length cp, .slice (some ⟨cb, co, none⟩) n cc, .slice Ae es.length ce] 27))
      generalize w6c.alloc (.cells #[.int .i64 r, .int .i64 wt, .int .i64 bk, .int .i64 cy, .string key, .slice (some ⟨db, do_, none⟩) ds.length cd, .slice (some ⟨pb, po, none⟩) ps.length cp, .slice (some ⟨cb, co, none⟩) n cc, .slice Ae es.length ce] 27) = wad at *
      obtain ⟨gd, hg⟩ : ∃ g, g = w6c.heap.size := ⟨_, rfl⟩
      have HGA := Lib.hid (show w6c.heap.size ≤ gd by omega)
      rw [← hg] at HA ⊢
      clear hg
      obtain ⟨j0, hj0, hy0, hy1, hy2⟩ := ds_parts
      obtain ⟨nd, hnd⟩ : ∃ nd, nd = ds.length := ⟨_, rfl⟩
      have HND := Lib.hid hnd
      have hnd4 : nd ≤ 4 := by have := HR.out.2.2.1.1; simp only at this; omega
      have hnd0 : 0 < nd := by rw [HND.out]; exact (List.getElem?_eq_some_iff.1 HDT.out).1
      have hnd1 : (0 : Int) < (nd : Int) := by omega
      clear hnd
      have HF : Hid (∀ W, Below wad.heap.size wad W → W.cell? ⟨w.heap.size, 5, none⟩ = some (.slice (some ⟨db, do_, none⟩) nd cd) ∧ W.cell? ⟨db, do_ + 1, none⟩ = some (.int .i64 d0.line) ∧ W.cell? ⟨db, do_ + 2, none⟩ = some (.int .i64 d0.unit)) := Lib.hid (fun W hW => by
        have h := HHB.out.below hW
        have h1 := h.box.cell 5
        rw [HND.out]
        exact ⟨h1, dev_cells h.mat.1 HDT.out⟩)
      have HRD : Hid (∀ W, Below wad.heap.size wad W → Words.Reads W W.heap.size 3 (some ⟨db, do_, none⟩) nd (ds.flatMap Dev.cells)) := Lib.hid (fun W hW => dev_reads (by exact (HHB.out.below hW).mat.1) HND.out)
      have HO := Lib.hid (devs_one ds)
      have HF3 : Hid (∀ W, Below w6c.heap.size w6c W → W.cell? ⟨w.heap.size, 5, none⟩ = some (.slice (some ⟨db, do_, none⟩) nd cd) ∧ W.cell? ⟨db, do_ + 1, none⟩ = some (.int .i64 d0.line) ∧ W.cell? ⟨db, do_ + 2, none⟩ = some (.int .i64 d0.unit)) := Lib.hid (fun W hW => by
        have h := HB3.out.below hW
        have h1 := h.box.cell 5
        rw [HND.out]
        exact ⟨h1, dev_cells h.mat.1 HDT.out⟩)
      have HO1 := Lib.hid (one_ds ⟨⟨#[122, 122]⟩, d0.line, d0.unit⟩)
      obtain ⟨y5, y1, y2⟩ := HF.out wad (Below.refl _ _)
      have HZ1 := Lib.hid (own_zero_row wad 47 3)
      have HZ2 := Lib.hid (own_zero_row (wad.alloc (.cells #[.string ⟨#[122, 122]⟩, .int .i64 d0.line, .int .i64 d0.unit] 47)) 47 3)
      go_cut [] (fun wx => Hid (∃ rbe rce : Nat, MatAt wx { (⟨r, wt, bk, cy, key, ds, ps, cs, es⟩ : Mat) with devs := ds ++ [⟨⟨#[122, 122]⟩, d0.line, d0.unit⟩] } (.slice (some ⟨rbe, 0, none⟩) (nd + 1) rce) (.slice (some ⟨pb, po, none⟩) ps.length cp) (.slice (some ⟨cb, co, none⟩) n cc) (.slice Ae es.length ce) ∧ Words.Blk wx gd 27 #[.int .i64 r, .int .i64 wt, .int .i64 bk, .int .i64 cy, .string key, .slice (some ⟨rbe, 0, none⟩) (nd + 1) rce, .slice (some ⟨pb, po, none⟩) ps.length cp, .slice (some ⟨cb, co, none⟩) n cc, .slice Ae es.length ce] ∧ Below w6c.heap.size w6c wx))
      case first =>
        go_region_held3 (fun w' => w'.cell? ⟨w.heap.size, 5, none⟩ = some (.slice (some ⟨db, do_, none⟩) nd cd) ∧ w'.cell? ⟨db, do_ + 1, none⟩ = some (.int .i64 d0.line) ∧ w'.cell? ⟨db, do_ + 2, none⟩ = some (.int .i64 d0.unit))
          (first | exact ⟨y5, y1, y2⟩ | exact HF.out _ ((Below.refl _ _).alloc (Nat.le_refl _) _) | exact HF.out _ (be_drew ((Below.refl _ _).alloc (Nat.le_refl _) _)) | exact HF.out _ (be_drew (((Below.refl _ _).alloc (Nat.le_refl _) _).alloc (by simp) _)) | exact HF.out _ HBC.out | exact HF.out _ (HBC.out.alloc HBC.out.size _) | exact HF3.out _ ((HC3.out.trans (HBC.out.mono HC3.out.size)).setCell (p := ⟨gd, 5, none⟩) HGA.out _))
          (first
            | (refine Words.step_append_any (World.drew (wad.alloc (.cells #[] 47))) rfl (.tmp 83) (.tmp 85) _ rfl wad.heap.size 47 j0 _ 3 32 Tryd.underlying22 hj0 hy0 hy1 hy2 rfl (by omega) (.slice (some ⟨wad.heap.size, 0, none⟩) 0 0) 0 [] rfl (by exact HZ1.out) ((World.drew (wad.alloc (.cells #[] 47)))).heap.size (some ⟨db, do_, none⟩) nd cd (ds.flatMap Dev.cells) rfl (HRD.out _ (be_drew ((Below.refl _ _).alloc (Nat.le_refl _) _))) HO.out (by simp only [maxLen]; omega) (by omega) (by first | (simp; omega) | simp) ?_; intro v' w4d ho hg _; rw [Nat.zero_add, List.nil_append] at ho; obtain ⟨rbd, rcd, rfl, hrbd⟩ := own_some ho (by omega); have HOD := Lib.hid ho; have HBC : Hid (Below wad.heap.size wad w4d) := Lib.hid (Below.grown (be_drew ((Below.refl _ _).alloc (Nat.le_refl _) _)) hg (by first | (simp; omega) | simp) (fun k hk => by have hk2 : some (wad.heap.size) = some k := hk; injection hk2 with hk2; omega));  clear ho hg)
            | (refine Words.step_append_any (World.drew ((wad.alloc (.cells #[.string ⟨#[122, 122]⟩, .int .i64 d0.line, .int .i64 d0.unit] 47)).alloc (.cells #[] 47))) rfl (.tmp 83) (.tmp 85) _ rfl wad.heap.size 47 j0 _ 3 32 Tryd.underlying22 hj0 hy0 hy1 hy2 rfl (by omega) (.slice (some ⟨wad.heap.size + 1, 0, none⟩) 0 0) 0 [] rfl (by have h := HZ2.out; have e : (wad.alloc (.cells #[.string ⟨#[122, 122]⟩, .int .i64 d0.line, .int .i64 d0.unit] 47)).heap.size = wad.heap.size + 1 := (by simp); rw [e] at h; exact own_base (Nat.le_succ _) h) ((World.drew ((wad.alloc (.cells #[.string ⟨#[122, 122]⟩, .int .i64 d0.line, .int .i64 d0.unit] 47)).alloc (.cells #[] 47)))).heap.size (some ⟨db, do_, none⟩) nd cd (ds.flatMap Dev.cells) rfl (HRD.out _ (be_drew (((Below.refl _ _).alloc (Nat.le_refl _) _).alloc (by simp) _))) HO.out (by simp only [maxLen]; omega) (by omega) (by first | (simp; omega) | simp) ?_; intro v' w4d ho hg _; rw [Nat.zero_add, List.nil_append] at ho; obtain ⟨rbd, rcd, rfl, hrbd⟩ := own_some ho (by omega); have HOD := Lib.hid ho; have HBC : Hid (Below wad.heap.size wad w4d) := Lib.hid (Below.grown (be_drew (((Below.refl _ _).alloc (Nat.le_refl _) _).alloc (by simp) _)) hg (by first | (simp; omega) | simp) (fun k hk => by have hk2 : some (wad.heap.size + 1) = some k := hk; injection hk2 with hk2; omega)); have HLT : Hid (Words.Blk w4d wad.heap.size 47 #[.string ⟨#[122, 122]⟩, .int .i64 d0.line, .int .i64 d0.unit]) := Lib.hid (Words.Blk.grown (w := World.drew ((wad.alloc (.cells #[.string ⟨#[122, 122]⟩, .int .i64 d0.line, .int .i64 d0.unit] 47)).alloc (.cells #[] 47))) (by have h := (Words.Blk.new wad 47 #[.string ⟨#[122, 122]⟩, .int .i64 d0.line, .int .i64 d0.unit]).alloc (.cells #[] 47); exact h) hg (by intro e; have e2 : some wad.heap.size = some (wad.heap.size + 1) := e; injection e2 with e2; omega)); clear ho hg)
            | (refine Words.step_append_any (w4d.alloc (.cells #[.string ⟨#[122, 122]⟩, .int .i64 d0.line, .int .i64 d0.unit] 47)) rfl (.tmp 86) (.tmp 98) _ rfl wad.heap.size 47 j0 _ 3 32 Tryd.underlying22 hj0 hy0 hy1 hy2 rfl (by omega) (.slice (some ⟨rbd, 0, none⟩) nd rcd) nd (ds.flatMap Dev.cells) rfl (HOD.out.alloc _) (w4d.heap.size + 1) (some ⟨w4d.heap.size, 0, none⟩) 1 1 (Dev.cells ⟨⟨#[122, 122]⟩, d0.line, d0.unit⟩) rfl (reads_ds w4d _ rfl ⟨⟨#[122, 122]⟩, d0.line, d0.unit⟩ _) HO1.out (by simp only [maxLen]; omega) (by omega) (by first | exact (HBC.out.alloc HBC.out.size _).size) ?_; intro v5 w5d ho2 hg2 _; obtain ⟨rbe, rce, rfl, hrbe⟩ := own_some ho2 (by omega); have HOE := Lib.hid ho2; have HBD : Hid (Below wad.heap.size wad w5d) := Lib.hid (Below.grown (HBC.out.alloc HBC.out.size _) hg2 (HBC.out.alloc HBC.out.size _).size (fun k hk => by have hk2 : some rbd = some k := hk; injection hk2 with hk2; omega)); have HBC := HBD; have c5 : w5d.cell? ⟨gd, 5, none⟩ = some (.slice (some ⟨db, do_, none⟩) ds.length cd) := (HA.out.below HBD.out HA.out.lt).cell 5; have f5 : w5d.frozen? ⟨gd, 5, none⟩ = false := (HA.out.below HBD.out HA.out.lt).frozen 5; clear ho2 hg2)
            | (refine Words.step_append_any w4d rfl (.tmp 86) (.tmp 98) _ rfl wad.heap.size 47 j0 _ 3 32 Tryd.underlying22 hj0 hy0 hy1 hy2 rfl (by omega) (.slice (some ⟨rbd, 0, none⟩) nd rcd) nd (ds.flatMap Dev.cells) rfl HOD.out (wad.heap.size + 2) (some ⟨wad.heap.size + 1, 0, none⟩) 1 1 (Dev.cells ⟨⟨#[122, 122]⟩, d0.line, d0.unit⟩) rfl (LawFrame.reads_block (xs := Dev.cells ⟨⟨#[122, 122]⟩, d0.line, d0.unit⟩) HLT.out (by omega) rfl) HO1.out (by simp only [maxLen]; omega) (by omega) (by first | exact HBC.out.size) ?_; intro v5 w5d ho2 hg2 _; obtain ⟨rbe, rce, rfl, hrbe⟩ := own_some ho2 (by omega); have HOE := Lib.hid ho2; have HBD : Hid (Below wad.heap.size wad w5d) := Lib.hid (Below.grown HBC.out hg2 HBC.out.size (fun k hk => by have hk2 : some rbd = some k := hk; injection hk2 with hk2; omega)); have HBC := HBD; have c5 : w5d.cell? ⟨gd, 5, none⟩ = some (.slice (some ⟨db, do_, none⟩) ds.length cd) := (HA.out.below HBD.out HA.out.lt).cell 5; have f5 : w5d.frozen? ⟨gd, 5, none⟩ = false := (HA.out.below HBD.out HA.out.lt).frozen 5; clear ho2 hg2)
            | (refine Words.step_append_any w4d rfl (.tmp 86) (.tmp 98) _ rfl wad.heap.size 47 j0 _ 3 32 Tryd.underlying22 hj0 hy0 hy1 hy2 rfl (by omega) (.slice (some ⟨rbd, 0, none⟩) nd rcd) nd (ds.flatMap Dev.cells) rfl HOD.out (wad.heap.size + 1) (some ⟨wad.heap.size, 0, none⟩) 1 1 (Dev.cells ⟨⟨#[122, 122]⟩, d0.line, d0.unit⟩) rfl (LawFrame.reads_block (xs := Dev.cells ⟨⟨#[122, 122]⟩, d0.line, d0.unit⟩) HLT.out (by omega) rfl) HO1.out (by simp only [maxLen]; omega) (by omega) (by first | exact HBC.out.size) ?_; intro v5 w5d ho2 hg2 _; obtain ⟨rbe, rce, rfl, hrbe⟩ := own_some ho2 (by omega); have HOE := Lib.hid ho2; have HBD : Hid (Below wad.heap.size wad w5d) := Lib.hid (Below.grown HBC.out hg2 HBC.out.size (fun k hk => by have hk2 : some rbd = some k := hk; injection hk2 with hk2; omega)); have HBC := HBD; have c5 : w5d.cell? ⟨gd, 5, none⟩ = some (.slice (some ⟨db, do_, none⟩) ds.length cd) := (HA.out.below HBD.out HA.out.lt).cell 5; have f5 : w5d.frozen? ⟨gd, 5, none⟩ = false := (HA.out.below HBD.out HA.out.lt).frozen 5; clear ho2 hg2)
            | (refine Words.step_append_any (World.drew ((wad.alloc (.cells #[] 47)).alloc (.cells #[.string ⟨#[122, 122]⟩, .int .i64 d0.line, .int .i64 d0.unit] 47))) rfl (.tmp 83) (.tmp 85) _ rfl wad.heap.size 47 j0 _ 3 32 Tryd.underlying22 hj0 hy0 hy1 hy2 rfl (by omega) (.slice (some ⟨wad.heap.size, 0, none⟩) 0 0) 0 [] rfl (by exact HZ1.out.alloc _) ((World.drew ((wad.alloc (.cells #[] 47)).alloc (.cells #[.string ⟨#[122, 122]⟩, .int .i64 d0.line, .int .i64 d0.unit] 47)))).heap.size (some ⟨db, do_, none⟩) nd cd (ds.flatMap Dev.cells) rfl (HRD.out _ (be_drew (((Below.refl _ _).alloc (Nat.le_refl _) _).alloc (by simp) _))) HO.out (by simp only [maxLen]; omega) (by omega) (by first | (simp; omega) | simp) ?_; intro v' w4d ho hg _; rw [Nat.zero_add, List.nil_append] at ho; obtain ⟨rbd, rcd, rfl, hrbd⟩ := own_some ho (by omega); have HOD := Lib.hid ho; have HBC : Hid (Below wad.heap.size wad w4d) := Lib.hid (Below.grown (be_drew (((Below.refl _ _).alloc (Nat.le_refl _) _).alloc (by simp) _)) hg (by first | (simp; omega) | simp) (fun k hk => by have hk2 : some (wad.heap.size) = some k := hk; injection hk2 with hk2; omega)); have HLT : Hid (Words.Blk w4d (wad.heap.size + 1) 47 #[.string ⟨#[122, 122]⟩, .int .i64 d0.line, .int .i64 d0.unit]) := Lib.hid (Words.Blk.grown (w := World.drew ((wad.alloc (.cells #[] 47)).alloc (.cells #[.string ⟨#[122, 122]⟩, .int .i64 d0.line, .int .i64 d0.unit] 47))) (by have h := Words.Blk.new (wad.alloc (.cells #[] 47)) 47 #[.string ⟨#[122, 122]⟩, .int .i64 d0.line, .int .i64 d0.unit]; have e : (wad.alloc (.cells #[] 47)).heap.size = wad.heap.size + 1 := (by simp); rw [e] at h; exact h) hg (by intro e; have e2 : some (wad.heap.size + 1) = some wad.heap.size := e; injection e2 with e2; omega)); clear ho hg))
        all_goals go_wp2_with fail
        all_goals go_meet
        all_goals have hkd := HA.out.below HBD.out HA.out.lt
        all_goals have hbd := (HC3.out.trans (HBD.out.mono HC3.out.size)).setCell (p := ⟨gd, 5, none⟩) HGA.out (.slice (some ⟨rbe, 0, none⟩) (nd + 1) rce)
        all_goals have hrw := HOE.out.kept (grown_set w5d gd 5 (.slice (some ⟨rbe, 0, none⟩) (nd + 1) rce)) (.inr (Words.own_blk_ne HOE.out hkd (by decide)))
        all_goals rw [show ds.flatMap Dev.cells ++ Dev.cells ⟨⟨#[122, 122]⟩, d0.line, d0.unit⟩ = (ds ++ [(⟨⟨#[122, 122]⟩, d0.line, d0.unit⟩ : Dev)]).flatMap Dev.cells by simp] at hrw
        all_goals exact Lib.hid ⟨rbe, rce, ⟨LawFrame.RowsAt.of_own Dev.cells_len (by decide) hrw, (HB3.out.below hbd).mat.2.1, (HB3.out.below hbd).mat.2.2.1, (HB3.out.below hbd).mat.2.2.2⟩, hkd.set_ 5 _, hbd⟩
      case rest =>
      obtain ⟨rbe, rce, hmd, hkd, hbd⟩ := hcut.out
      have HMd := Lib.hid hmd
      have HKd := Lib.hid hkd
      have HMa := Lib.hid (HMa.out.below hbd)
      have HMb := Lib.hid (HMb.out.below hbd)
      have HMc := Lib.hid (HMc.out.below hbd)
      have HKa := Lib.hid (HKa.out.below hbd HKa.out.lt)
      have HKb := Lib.hid (HKb.out.below hbd HKb.out.lt)
      have HKc := Lib.hid (HKc.out.below hbd HKc.out.lt)
      have HHB := Lib.hid (HB3.out.below hbd)
      have HRS := Lib.hid (right_small HR.out)
      have HCM := Lib.hid (List.mem_of_getElem? HC.out)
      clear hmd hkd hbd hcut
      have hsm : MatSmall ⟨r, wt, bk, cy, key, ds, ps, cs.set K { c with votes := (pn : Int) + 1 }, es⟩ := (small_set (K := K) (c' := { c with votes := (pn : Int) + 1 }) HRS.out (HRS.out.cs c HCM.out)).small (by decide) true true
      have HSX := Lib.hid hsm
      clear hsm
      have y0 : wc.cell? ⟨ga, 0, none⟩ = some (.int .i64 r) := HKa.out.cell 0
      have y1 : wc.cell? ⟨ga, 1, none⟩ = some (.int .i64 wt) := HKa.out.cell 1
      have y2 : wc.cell? ⟨ga, 2, none⟩ = some (.int .i64 bk) := HKa.out.cell 2
      have y3 : wc.cell? ⟨ga, 3, none⟩ = some (.int .i64 cy) := HKa.out.cell 3
      have y4 : wc.cell? ⟨ga, 4, none⟩ = some (.string key) := HKa.out.cell 4
      have y5 : wc.cell? ⟨ga, 5, none⟩ = some (.slice (some ⟨db, do_, none⟩) ds.length cd) := HKa.out.cell 5
      have y6 : wc.cell? ⟨ga, 6, none⟩ = some (.slice (some ⟨pb, po, none⟩) ps.length cp) := HKa.out.cell 6
      have y7 : wc.cell? ⟨ga, 7, none⟩ = some (.slice (some ⟨rba, 0, none⟩) n rca) := HKa.out.cell 7
      have y8 : wc.cell? ⟨ga, 8, none⟩ = some (.slice Ae es.length ce) := HKa.out.cell 8
      go_wp2_with fail
      refine (lRight_any wc _ _ _ _ _ HMa.out HSX.out).mono ?_
      rintro e wra ⟨b, rfl, hbr, hb⟩
      obtain rfl : b = false := by
        cases b with
        | false => rfl
        | true => exact absurd (hbr.1 rfl) (by have h := names_votes (m := ⟨r, wt, bk, cy, key, ds, ps, cs, es⟩) HC.out; rw [← HPN.out] at h; exact h)
      clear hbr HSX y0 y1 y2 y3 y4 y5 y6 y7 y8
      have HMb := Lib.hid (HMb.out.below hb)
      have HKb := Lib.hid (HKb.out.below hb HKb.out.lt)
      have HMc := Lib.hid (HMc.out.below hb)
      have HKc := Lib.hid (HKc.out.below hb HKc.out.lt)
      have HMd := Lib.hid (HMd.out.below hb)
      have HKd := Lib.hid (HKd.out.below hb HKd.out.lt)
      have HHB := Lib.hid (HHB.out.below hb)
      clear hb
      have hsm : MatSmall ⟨r, wt, bk, cy, key, ds, ps, cs.set K { c with name := p0.name }, es⟩ := (small_set (K := K) (c' := { c with name := p0.name }) HRS.out ⟨HRS.out.ps p0 (List.mem_of_getElem? HPT.out), (HRS.out.cs c HCM.out).2⟩).small (by decide) true true
      have HSX := Lib.hid hsm
      clear hsm
      have y0 : wra.cell? ⟨gb, 0, none⟩ = some (.int .i64 r) := HKb.out.cell 0
      have y1 : wra.cell? ⟨gb, 1, none⟩ = some (.int .i64 wt) := HKb.out.cell 1
      have y2 : wra.cell? ⟨gb, 2, none⟩ = some (.int .i64 bk) := HKb.out.cell 2
      have y3 : wra.cell? ⟨gb, 3, none⟩ = some (.int .i64 cy) := HKb.out.cell 3
      have y4 : wra.cell? ⟨gb, 4, none⟩ = some (.string key) := HKb.out.cell 4
      have y5 : wra.cell? ⟨gb, 5, none⟩ = some (.slice (some ⟨db, do_, none⟩) ds.length cd) := HKb.out.cell 5
      have y6 : wra.cell? ⟨gb, 6, none⟩ = some (.slice (some ⟨pb, po, none⟩) ps.length cp) := HKb.out.cell 6
      have y7 : wra.cell? ⟨gb, 7, none⟩ = some (.slice (some ⟨rbb, 0, none⟩) n rcb) := HKb.out.cell 7
      have y8 : wra.cell? ⟨gb, 8, none⟩ = some (.slice Ae es.length ce) := HKb.out.cell 8
      go_wp2_with fail
      refine (lRight_any wra _ _ _ _ _ HMb.out HSX.out).mono ?_
      rintro e wrb ⟨b, rfl, hbr, hb⟩
      obtain rfl : b = false := by
        cases b with
        | false => rfl
        | true => exact absurd (hbr.1 rfl) (names_name (m := ⟨r, wt, bk, cy, key, ds, ps, cs, es⟩) HC.out HPT.out)
      clear hbr HSX y0 y1 y2 y3 y4 y5 y6 y7 y8
      have HMc := Lib.hid (HMc.out.below hb)
      have HKc := Lib.hid (HKc.out.below hb HKc.out.lt)
      have HMd := Lib.hid (HMd.out.below hb)
      have HKd := Lib.hid (HKd.out.below hb HKd.out.lt)
      have HHB := Lib.hid (HHB.out.below hb)
      clear hb
      have hsm : MatSmall ⟨r, wt, bk, cy, key, ds, ps, cs.set K { c with v := .slice (some ⟨w5c.heap.size, 0, none⟩) 1 1, pts := [(ps.length : Int)] }, es⟩ := (small_set (K := K) (c' := { c with v := .slice (some ⟨w5c.heap.size, 0, none⟩) 1 1, pts := [(ps.length : Int)] }) HRS.out ⟨(HRS.out.cs c HCM.out).1, by show 1 ≤ 100000; omega⟩).small (by decide) true true
      have HSX := Lib.hid hsm
      clear hsm
      have y0 : wrb.cell? ⟨gc, 0, none⟩ = some (.int .i64 r) := HKc.out.cell 0
      have y1 : wrb.cell? ⟨gc, 1, none⟩ = some (.int .i64 wt) := HKc.out.cell 1
      have y2 : wrb.cell? ⟨gc, 2, none⟩ = some (.int .i64 bk) := HKc.out.cell 2
      have y3 : wrb.cell? ⟨gc, 3, none⟩ = some (.int .i64 cy) := HKc.out.cell 3
      have y4 : wrb.cell? ⟨gc, 4, none⟩ = some (.string key) := HKc.out.cell 4
      have y5 : wrb.cell? ⟨gc, 5, none⟩ = some (.slice (some ⟨db, do_, none⟩) ds.length cd) := HKc.out.cell 5
      have y6 : wrb.cell? ⟨gc, 6, none⟩ = some (.slice (some ⟨pb, po, none⟩) ps.length cp) := HKc.out.cell 6
      have y7 : wrb.cell? ⟨gc, 7, none⟩ = some (.slice (some ⟨rbc, 0, none⟩) n rcc) := HKc.out.cell 7
      have y8 : wrb.cell? ⟨gc, 8, none⟩ = some (.slice Ae es.length ce) := HKc.out.cell 8
      go_wp2_with fail
      refine (lRight_any wrb _ _ _ _ _ HMc.out HSX.out).mono ?_
      rintro e wrc ⟨b, rfl, hbr, hb⟩
      obtain rfl : b = false := by
        cases b with
        | false => rfl
        | true => exact absurd (hbr.1 rfl) (names_point (m := ⟨r, wt, bk, cy, key, ds, ps, cs, es⟩) HC.out)
      clear hbr HSX y0 y1 y2 y3 y4 y5 y6 y7 y8
      have HMd := Lib.hid (HMd.out.below hb)
      have HKd := Lib.hid (HKd.out.below hb HKd.out.lt)
      have HHB := Lib.hid (HHB.out.below hb)
      clear hb
      have hsm : MatSmall ⟨r, wt, bk, cy, key, ds ++ [⟨⟨#[122, 122]⟩, d0.line, d0.unit⟩], ps, cs, es⟩ := (HRS.out.app_ds (x := ⟨⟨#[122, 122]⟩, d0.line, d0.unit⟩) (by show 2 ≤ 1000000; omega)).small (by decide) true true
      have HSX := Lib.hid hsm
      clear hsm
      have y0 : wrc.cell? ⟨gd, 0, none⟩ = some (.int .i64 r) := HKd.out.cell 0
      have y1 : wrc.cell? ⟨gd, 1, none⟩ = some (.int .i64 wt) := HKd.out.cell 1
      have y2 : wrc.cell? ⟨gd, 2, none⟩ = some (.int .i64 bk) := HKd.out.cell 2
      have y3 : wrc.cell? ⟨gd, 3, none⟩ = some (.int .i64 cy) := HKd.out.cell 3
      have y4 : wrc.cell? ⟨gd, 4, none⟩ = some (.string key) := HKd.out.cell 4
      have y5 : wrc.cell? ⟨gd, 5, none⟩ = some (.slice (some ⟨rbe, 0, none⟩) (nd + 1) rce) := HKd.out.cell 5
      have y6 : wrc.cell? ⟨gd, 6, none⟩ = some (.slice (some ⟨pb, po, none⟩) ps.length cp) := HKd.out.cell 6
      have y7 : wrc.cell? ⟨gd, 7, none⟩ = some (.slice (some ⟨cb, co, none⟩) n cc) := HKd.out.cell 7
      have y8 : wrc.cell? ⟨gd, 8, none⟩ = some (.slice Ae es.length ce) := HKd.out.cell 8
      go_wp2_with fail
      refine (lRight_any wrc _ _ _ _ _ HMd.out HSX.out).mono ?_
      rintro e wrd ⟨b, rfl, hbr, hb⟩
      obtain rfl : b = false := by
        cases b with
        | false => rfl
        | true => exact absurd (hbr.1 rfl) (names_dev (m := ⟨r, wt, bk, cy, key, ds, ps, cs, es⟩) HDT.out)
      clear hbr HSX y0 y1 y2 y3 y4 y5 y6 y7 y8
      have HHB := Lib.hid (HHB.out.below hb)
      clear hb
      go_wp2_with fail
      go_ret
      exact ⟨rfl, HHB.out.old⟩
end Go.Proofs.YtckbdnkonccmiaaDoor
