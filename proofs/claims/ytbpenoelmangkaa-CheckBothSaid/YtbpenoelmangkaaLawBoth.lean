/-
  CheckBoth: an effect is one of a cause's just if the cause is one of its, and so on, counted twice.
-/
import Derived.Test.YtbpenoelmangkaaLawBothPlain
import Derived.Deep.RegionHeld3
namespace Go.Proofs.Ytbpenoelmangkaa
open Go.RowKit
set_option maxHeartbeats 4000000 in
set_option maxRecDepth 100000 in
theorem checkBoth_any (w : World) (m : Mat) (vd vp vc ve : Value) (h : MatAt w m vd vp vc ve) (hm : MatSmall m) :
    Calls Try.prog 4 #[m.val vd vp vc ve] w fun e w' => e = .returned (.bool true) ∧ Below w.heap.size w w' := by
  obtain ⟨r, wt, bk, cy, key, ds, ps, cs, es⟩ := m
  obtain ⟨Ad, cd, e, hcd, -⟩ := id h.1
  simp only at e
  subst e
  obtain ⟨Ap, cp, e, hcp, -⟩ := id h.2.1
  simp only at e
  subst e
  obtain ⟨Ac, cc, e, hcc, -⟩ := id h.2.2.1.1
  simp only at e
  subst e
  obtain ⟨Ae, ce, e, hce, -⟩ := id h.2.2.2.1
  simp only at e
  subst e
  have HM := Lib.hid hm
  unfold Mat.val
  simp only
  have HS := Lib.hid (show HeadIs w w.heap.size ⟨r, wt, bk, cy, key, ds, ps, cs, es⟩ _ _ _ _ #[.int .i64 r, .int .i64 wt, .int .i64 bk, .int .i64 cy, .string key, .slice Ad ds.length cd, .slice Ap ps.length cp, .slice Ac cs.length cc, .slice Ae es.length ce] (w.alloc (.cells #[.int .i64 r, .int .i64 wt, .int .i64 bk, .int .i64 cy, .string key, .slice Ad ds.length cd, .slice Ap ps.length cp, .slice Ac cs.length cc, .slice Ae es.length ce] 27)) from ⟨(Below.refl _ _).alloc (Nat.le_refl _) _, h.below ((Below.refl _ _).alloc (Nat.le_refl _) _), Words.Blk.new _ _ _⟩)
  clear h hm
  go_enter Try.func4, Try.ntmps4
  go_wp2_with fail
  refine (head_any _).mono ?_
  rintro e w1 ⟨rfl, hb⟩
  replace HS := Lib.hid (HS.out.below hb)
  clear hb
  have z0 : w1.cell? ⟨w.heap.size, 0, none⟩ = some (.int .i64 r) := HS.out.2.2.cell 0
  have z1 : w1.cell? ⟨w.heap.size, 1, none⟩ = some (.int .i64 wt) := HS.out.2.2.cell 1
  have z2 : w1.cell? ⟨w.heap.size, 2, none⟩ = some (.int .i64 bk) := HS.out.2.2.cell 2
  have z3 : w1.cell? ⟨w.heap.size, 3, none⟩ = some (.int .i64 cy) := HS.out.2.2.cell 3
  have z4 : w1.cell? ⟨w.heap.size, 4, none⟩ = some (.string key) := HS.out.2.2.cell 4
  have z5 : w1.cell? ⟨w.heap.size, 5, none⟩ = some (.slice Ad ds.length cd) := HS.out.2.2.cell 5
  have z6 : w1.cell? ⟨w.heap.size, 6, none⟩ = some (.slice Ap ps.length cp) := HS.out.2.2.cell 6
  have z7 : w1.cell? ⟨w.heap.size, 7, none⟩ = some (.slice Ac cs.length cc) := HS.out.2.2.cell 7
  have z8 : w1.cell? ⟨w.heap.size, 8, none⟩ = some (.slice Ae es.length ce) := HS.out.2.2.cell 8
  go_wp2_with fail
  clear z0 z1 z2 z3 z4 z5 z6 z7 z8
  refine (great_any _ ⟨r, wt, bk, cy, key, ds, ps, cs, es⟩ _ _ _ _ HS.out.2.1 HM.out).mono ?_
  rintro e w2 ⟨⟨b, rfl⟩, hb⟩
  replace HS := Lib.hid (HS.out.below hb)
  clear hb
  cases b with
  | true =>
    go_wp2_with fail
    go_ret
    exact ⟨rfl, HS.out.1⟩
  | false =>
  have z0 : w2.cell? ⟨w.heap.size, 0, none⟩ = some (.int .i64 r) := HS.out.2.2.cell 0
  have z1 : w2.cell? ⟨w.heap.size, 1, none⟩ = some (.int .i64 wt) := HS.out.2.2.cell 1
  have z2 : w2.cell? ⟨w.heap.size, 2, none⟩ = some (.int .i64 bk) := HS.out.2.2.cell 2
  have z3 : w2.cell? ⟨w.heap.size, 3, none⟩ = some (.int .i64 cy) := HS.out.2.2.cell 3
  have z4 : w2.cell? ⟨w.heap.size, 4, none⟩ = some (.string key) := HS.out.2.2.cell 4
  have z5 : w2.cell? ⟨w.heap.size, 5, none⟩ = some (.slice Ad ds.length cd) := HS.out.2.2.cell 5
  have z6 : w2.cell? ⟨w.heap.size, 6, none⟩ = some (.slice Ap ps.length cp) := HS.out.2.2.cell 6
  have z7 : w2.cell? ⟨w.heap.size, 7, none⟩ = some (.slice Ac cs.length cc) := HS.out.2.2.cell 7
  have z8 : w2.cell? ⟨w.heap.size, 8, none⟩ = some (.slice Ae es.length ce) := HS.out.2.2.cell 8
  go_wp2_with fail
  clear z0 z1 z2 z3 z4 z5 z6 z7 z8
  refine (rRight_any _ ⟨r, wt, bk, cy, key, ds, ps, cs, es⟩ _ _ _ _ HS.out.2.1 HM.out).mono ?_
  rintro e w3 ⟨b, rfl, hb1, hb⟩
  replace HS := Lib.hid (HS.out.below hb)
  have HB1 := Lib.hid hb1
  clear hb hb1
  cases b with
  | false =>
    go_wp2_with fail
    go_ret
    exact ⟨rfl, HS.out.1⟩
  | true =>
  have HR := Lib.hid (HB1.out.1 rfl)
  clear HB1
  have hsd : ds.length ≤ 4 := HR.out.2.2.1.1
  have hsp : ps.length ≤ 16 := HR.out.2.2.2.1.1
  have hsc : cs.length ≤ 8 := HR.out.2.2.2.2.1.1
  have hse : es.length ≤ 8 := HR.out.2.2.2.2.2.1.1
  clear hsc hse hsp hsd
  have hsp : ps.length ≤ 16 := HR.out.2.2.2.1.1
  have hsc : cs.length ≤ 8 := HR.out.2.2.2.2.1.1
  have hse : es.length ≤ 8 := HR.out.2.2.2.2.2.1.1
  go_wp2_with fail
  go_loopw [4, 5] (fun p i wr => ∃ (k P : Nat), k ≤ cs.length ∧ i = .int .i64 (k : Int) ∧ p = .int .i64 (P : Int) ∧ P ≤ 8 * k ∧ Hid (P = sumTo (fun c => (effectsF ⟨r, wt, bk, cy, key, ds, ps, cs, es⟩ (c : Int)).length) k) ∧ Hid (HeadIs w w.heap.size ⟨r, wt, bk, cy, key, ds, ps, cs, es⟩ (.slice Ad ds.length cd) (.slice Ap ps.length cp) (.slice Ac cs.length cc) (.slice Ae es.length ce) #[.int .i64 r, .int .i64 wt, .int .i64 bk, .int .i64 cy, .string key, .slice Ad ds.length cd, .slice Ap ps.length cp, .slice Ac cs.length cc, .slice Ae es.length ce] wr)) (fun _ i _ => cs.length - (intOf i).toNat)
  case atStart => exact ⟨0, 0, Nat.zero_le _, rfl, rfl, Nat.zero_le _, Lib.hid rfl, HS⟩
  case round =>
    clear HS
    obtain ⟨k, P, hk, rfl, rfl, hP, HP, HS⟩ := hrel
    have hk0 : (0 : Int) ≤ (k : Int) := by omega
    have z0 : wr.cell? ⟨w.heap.size, 0, none⟩ = some (.int .i64 r) := HS.out.2.2.cell 0
    have z1 : wr.cell? ⟨w.heap.size, 1, none⟩ = some (.int .i64 wt) := HS.out.2.2.cell 1
    have z2 : wr.cell? ⟨w.heap.size, 2, none⟩ = some (.int .i64 bk) := HS.out.2.2.cell 2
    have z3 : wr.cell? ⟨w.heap.size, 3, none⟩ = some (.int .i64 cy) := HS.out.2.2.cell 3
    have z4 : wr.cell? ⟨w.heap.size, 4, none⟩ = some (.string key) := HS.out.2.2.cell 4
    have z5 : wr.cell? ⟨w.heap.size, 5, none⟩ = some (.slice Ad ds.length cd) := HS.out.2.2.cell 5
    have z6 : wr.cell? ⟨w.heap.size, 6, none⟩ = some (.slice Ap ps.length cp) := HS.out.2.2.cell 6
    have z7 : wr.cell? ⟨w.heap.size, 7, none⟩ = some (.slice Ac cs.length cc) := HS.out.2.2.cell 7
    have z8 : wr.cell? ⟨w.heap.size, 8, none⟩ = some (.slice Ae es.length ce) := HS.out.2.2.cell 8
    by_cases hlt : k < cs.length
    · have hk1 : (k : Int) < (cs.length : Int) := by omega
      go_wp2_with fail
      refine (effects_any _ ⟨r, wt, bk, cy, key, ds, ps, cs, es⟩ _ _ _ _ HS.out.2.1 HM.out HR.out (k : Int)).mono ?_
      rintro e w5 ⟨v, rfl, hv, hb⟩
      obtain ⟨L, hL⟩ : ∃ L, L = effectsF ⟨r, wt, bk, cy, key, ds, ps, cs, es⟩ (k : Int) := ⟨_, rfl⟩
      have hLl : L.length ≤ 8 := by rw [hL]; exact Nat.le_trans (effects_le (m := ⟨r, wt, bk, cy, key, ds, ps, cs, es⟩) _) (by simp only; omega)
      have HP2 : Hid (P + L.length = sumTo (fun c => (effectsF ⟨r, wt, bk, cy, key, ds, ps, cs, es⟩ (c : Int)).length) (k + 1)) := Lib.hid (by rw [hL, HP.out]; rfl)
      rw [← hL] at hv
      have HS2 := Lib.hid (HS.out.below hb)
      obtain ⟨Av, cv, e, hcv, -⟩ := id hv
      subst e
      clear hv hb hL HS HP z0 z1 z2 z3 z4 z5 z6 z7 z8
      go_wp2_with fail
      go_roundw
      case rel => exact ⟨k + 1, P + L.length, by omega, by go_num, by go_num, by omega, HP2, HS2⟩
      case measure => simp [intOf]; omega
    · obtain rfl : k = cs.length := by omega
      clear hlt hk
      have HP1 := HP
      clear HP
      obtain ⟨P1, hP1⟩ : ∃ P1, P1 = P := ⟨_, rfl⟩
      subst hP1
      go_wp2_with fail
      clear z0 z1 z2 z3 z4 z5 z6 z7 z8
      go_loopw [6, 7] (fun p i wr => ∃ (k P : Nat), k ≤ ps.length ∧ i = .int .i64 (k : Int) ∧ p = .int .i64 (P : Int) ∧ P ≤ 8 * k ∧ Hid (P = sumTo (fun c => (causesF ⟨r, wt, bk, cy, key, ds, ps, cs, es⟩ (c : Int)).length) k) ∧ Hid (HeadIs w w.heap.size ⟨r, wt, bk, cy, key, ds, ps, cs, es⟩ (.slice Ad ds.length cd) (.slice Ap ps.length cp) (.slice Ac cs.length cc) (.slice Ae es.length ce) #[.int .i64 r, .int .i64 wt, .int .i64 bk, .int .i64 cy, .string key, .slice Ad ds.length cd, .slice Ap ps.length cp, .slice Ac cs.length cc, .slice Ae es.length ce] wr)) (fun _ i _ => ps.length - (intOf i).toNat)
      case atStart => exact ⟨0, 0, Nat.zero_le _, rfl, rfl, Nat.zero_le _, Lib.hid rfl, HS⟩
      case round =>
        clear HS
        obtain ⟨k, P, hk, rfl, rfl, hP, HP, HS⟩ := hrel
        have hk0 : (0 : Int) ≤ (k : Int) := by omega
        have z0 : wr.cell? ⟨w.heap.size, 0, none⟩ = some (.int .i64 r) := HS.out.2.2.cell 0
        have z1 : wr.cell? ⟨w.heap.size, 1, none⟩ = some (.int .i64 wt) := HS.out.2.2.cell 1
        have z2 : wr.cell? ⟨w.heap.size, 2, none⟩ = some (.int .i64 bk) := HS.out.2.2.cell 2
        have z3 : wr.cell? ⟨w.heap.size, 3, none⟩ = some (.int .i64 cy) := HS.out.2.2.cell 3
        have z4 : wr.cell? ⟨w.heap.size, 4, none⟩ = some (.string key) := HS.out.2.2.cell 4
        have z5 : wr.cell? ⟨w.heap.size, 5, none⟩ = some (.slice Ad ds.length cd) := HS.out.2.2.cell 5
        have z6 : wr.cell? ⟨w.heap.size, 6, none⟩ = some (.slice Ap ps.length cp) := HS.out.2.2.cell 6
        have z7 : wr.cell? ⟨w.heap.size, 7, none⟩ = some (.slice Ac cs.length cc) := HS.out.2.2.cell 7
        have z8 : wr.cell? ⟨w.heap.size, 8, none⟩ = some (.slice Ae es.length ce) := HS.out.2.2.cell 8
        by_cases hlt : k < ps.length
        · have hk1 : (k : Int) < (ps.length : Int) := by omega
          go_wp2_with fail
          refine (causes_any _ ⟨r, wt, bk, cy, key, ds, ps, cs, es⟩ _ _ _ _ HS.out.2.1 HM.out HR.out (k : Int)).mono ?_
          rintro e w5 ⟨v, rfl, hv, hb⟩
          obtain ⟨L, hL⟩ : ∃ L, L = causesF ⟨r, wt, bk, cy, key, ds, ps, cs, es⟩ (k : Int) := ⟨_, rfl⟩
          have hLl : L.length ≤ 8 := by rw [hL]; exact Nat.le_trans (causes_le (m := ⟨r, wt, bk, cy, key, ds, ps, cs, es⟩) _) (by simp only; omega)
          have HP2 : Hid (P + L.length = sumTo (fun c => (causesF ⟨r, wt, bk, cy, key, ds, ps, cs, es⟩ (c : Int)).length) (k + 1)) := Lib.hid (by rw [hL, HP.out]; rfl)
          rw [← hL] at hv
          have HS2 := Lib.hid (HS.out.below hb)
          obtain ⟨Av, cv, e, hcv, -⟩ := id hv
          subst e
          clear hv hb hL HS HP z0 z1 z2 z3 z4 z5 z6 z7 z8
          go_wp2_with fail
          go_roundw
          case rel => exact ⟨k + 1, P + L.length, by omega, by go_num, by go_num, by omega, HP2, HS2⟩
          case measure => simp [intOf]; omega
        · obtain rfl : k = ps.length := by omega
          clear hlt hk
          have HP2 := HP
          clear HP
          obtain ⟨P2, hP2⟩ : ∃ P2, P2 = P := ⟨_, rfl⟩
          subst hP2
          go_wp2_with fail
          clear z0 z1 z2 z3 z4 z5 z6 z7 z8
          go_loopw [8, 9] (fun p i wr => ∃ (k P : Nat), k ≤ 4 ∧ i = .int .i64 (k : Int) ∧ p = .int .i64 (P : Int) ∧ P ≤ 8 * k ∧ Hid (P = sumTo (fun c => (onF ⟨r, wt, bk, cy, key, ds, ps, cs, es⟩ (c : Int)).length) k) ∧ Hid (HeadIs w w.heap.size ⟨r, wt, bk, cy, key, ds, ps, cs, es⟩ (.slice Ad ds.length cd) (.slice Ap ps.length cp) (.slice Ac cs.length cc) (.slice Ae es.length ce) #[.int .i64 r, .int .i64 wt, .int .i64 bk, .int .i64 cy, .string key, .slice Ad ds.length cd, .slice Ap ps.length cp, .slice Ac cs.length cc, .slice Ae es.length ce] wr)) (fun _ i _ => 4 - (intOf i).toNat)
          case atStart => exact ⟨0, 0, Nat.zero_le _, rfl, rfl, Nat.zero_le _, Lib.hid rfl, HS⟩
          case round =>
            clear HS
            obtain ⟨k, P, hk, rfl, rfl, hP, HP, HS⟩ := hrel
            have hk0 : (0 : Int) ≤ (k : Int) := by omega
            have z0 : wr.cell? ⟨w.heap.size, 0, none⟩ = some (.int .i64 r) := HS.out.2.2.cell 0
            have z1 : wr.cell? ⟨w.heap.size, 1, none⟩ = some (.int .i64 wt) := HS.out.2.2.cell 1
            have z2 : wr.cell? ⟨w.heap.size, 2, none⟩ = some (.int .i64 bk) := HS.out.2.2.cell 2
            have z3 : wr.cell? ⟨w.heap.size, 3, none⟩ = some (.int .i64 cy) := HS.out.2.2.cell 3
            have z4 : wr.cell? ⟨w.heap.size, 4, none⟩ = some (.string key) := HS.out.2.2.cell 4
            have z5 : wr.cell? ⟨w.heap.size, 5, none⟩ = some (.slice Ad ds.length cd) := HS.out.2.2.cell 5
            have z6 : wr.cell? ⟨w.heap.size, 6, none⟩ = some (.slice Ap ps.length cp) := HS.out.2.2.cell 6
            have z7 : wr.cell? ⟨w.heap.size, 7, none⟩ = some (.slice Ac cs.length cc) := HS.out.2.2.cell 7
            have z8 : wr.cell? ⟨w.heap.size, 8, none⟩ = some (.slice Ae es.length ce) := HS.out.2.2.cell 8
            by_cases hlt : k < 4
            · have hk1 : (k : Int) < 4 := by omega
              go_wp2_with fail
              refine (on_any _ ⟨r, wt, bk, cy, key, ds, ps, cs, es⟩ _ _ _ _ HS.out.2.1 HM.out HR.out (k : Int)).mono ?_
              rintro e w5 ⟨v, rfl, hv, hb⟩
              obtain ⟨L, hL⟩ : ∃ L, L = onF ⟨r, wt, bk, cy, key, ds, ps, cs, es⟩ (k : Int) := ⟨_, rfl⟩
              have hLl : L.length ≤ 8 := by rw [hL]; exact Nat.le_trans (on_le (m := ⟨r, wt, bk, cy, key, ds, ps, cs, es⟩) _) (by simp only; omega)
              have HP2 : Hid (P + L.length = sumTo (fun c => (onF ⟨r, wt, bk, cy, key, ds, ps, cs, es⟩ (c : Int)).length) (k + 1)) := Lib.hid (by rw [hL, HP.out]; rfl)
              rw [← hL] at hv
              have HS2 := Lib.hid (HS.out.below hb)
              obtain ⟨Av, cv, e, hcv, -⟩ := id hv
              subst e
              clear hv hb hL HS HP z0 z1 z2 z3 z4 z5 z6 z7 z8
              go_wp2_with fail
              go_roundw
              case rel => exact ⟨k + 1, P + L.length, by omega, by go_num, by go_num, by omega, HP2, HS2⟩
              case measure => simp [intOf]; omega
            · obtain rfl : k = 4 := by omega
              clear hlt hk
              have HP3 := HP
              clear HP
              obtain ⟨P3, hP3⟩ : ∃ P3, P3 = P := ⟨_, rfl⟩
              subst hP3
              go_wp2_with fail
              clear z0 z1 z2 z3 z4 z5 z6 z7 z8
              go_loopw [4, 10] (fun p i wr => ∃ (k : Nat) (P : Int), k ≤ es.length ∧ i = .int .i64 (k : Int) ∧ p = .int .i64 P ∧ (-8 * (k : Int) ≤ P ∧ P ≤ 1000) ∧ Hid (P = (P1 : Int) - (sumUpto (fun x => x.cs.length) es k : Nat)) ∧ Hid (HeadIs w w.heap.size ⟨r, wt, bk, cy, key, ds, ps, cs, es⟩ (.slice Ad ds.length cd) (.slice Ap ps.length cp) (.slice Ac cs.length cc) (.slice Ae es.length ce) #[.int .i64 r, .int .i64 wt, .int .i64 bk, .int .i64 cy, .string key, .slice Ad ds.length cd, .slice Ap ps.length cp, .slice Ac cs.length cc, .slice Ae es.length ce] wr)) (fun _ i _ => es.length - (intOf i).toNat)
              case atStart => exact ⟨0, _, Nat.zero_le _, rfl, rfl, ⟨by omega, by omega⟩, Lib.hid (by rw [sumUpto_zero]; simp), HS⟩
              case round =>
                clear HS
                obtain ⟨k, P, hk, rfl, rfl, hP, HP, HS⟩ := hrel
                have hk0 : (0 : Int) ≤ (k : Int) := by omega
                by_cases hlt : k < es.length
                · obtain ⟨x, hx⟩ : ∃ x, es[k]? = some x := ⟨_, List.getElem?_eq_getElem hlt⟩
                  have HX := Lib.hid hx
                  have hk1 : (k : Int) < (es.length : Int) := by omega
                  have HSr := HS
                  obtain ⟨b, off, hA, hb, hcell⟩ := row_at HSr.out.2.1.2.2.2.1 HX.out
                  subst hA
                  have HXP := Lib.hid (HSr.out.2.1.2.2.2.2 x (List.mem_of_getElem? HX.out))
                  obtain ⟨x0, x1, x2, x3, xv, xs⟩ := x
                  obtain ⟨Ai, ci, e, hci, -⟩ := id HXP.out
                  simp only at e
                  subst e
                  have hxl : xs.length ≤ 8 := by have := (ef_some HR.out _ (List.mem_of_getElem? HX.out)).2.1; simp only at this; omega
                  have HPN : Hid (P - (xs.length : Int) = (P1 : Int) - (sumUpto (fun x => x.cs.length) es (k + 1) : Nat)) := Lib.hid (by rw [sum_take _ HX.out, HP.out]; simp only; omega)
                  obtain ⟨P', hP'⟩ : ∃ P', P' = P - (xs.length : Int) := ⟨_, rfl⟩
                  have y4 := hcell 4 _ rfl
                  simp only at y4
                  clear hcell hb hx HSr
                  have hw : IntKind.i64.wrap (P - (xs.length : Int)) = P' := by rw [hP']; exact IntWalk.i64_in _ (by omega)
                  have z8 : wr.cell? ⟨w.heap.size, 8, none⟩ = some (.slice (some ⟨b, off, none⟩) es.length ce) := HS.out.2.2.cell 8
                  rw [← hP'] at HPN
                  have hP3 : -8 * ((k + 1 : Nat) : Int) ≤ P' ∧ P' ≤ 1000 := by omega
                  have HPQ := Lib.hid hP3
                  clear hP3
                  go_wp2_with fail
                  obtain ⟨wo, rfl⟩ : ∃ wo : World, wo = wr := ⟨_, rfl⟩
                  go_loopw [11] (fun i wr => ∃ j : Nat, j ≤ xs.length ∧ i = .int .i64 (j : Int) ∧ Hid (Below wo.heap.size wo wr)) (fun i _ => xs.length - (intOf i).toNat)
                  case atStart => exact ⟨0, Nat.zero_le _, rfl, Lib.hid (Below.refl _ _)⟩
                  case round =>
                    clear y4 z8
                    obtain ⟨j, hj, rfl, HW⟩ := hrel
                    have hj0 : (0 : Int) ≤ (j : Int) := by omega
                    have HSr := Lib.hid (HS.out.below HW.out)
                    obtain ⟨b', off', hA, hb, hcell⟩ := row_at HSr.out.2.1.2.2.2.1 HX.out
                    injection hA with hA
                    injection hA with hA1 hA2 _
                    subst hA1 hA2
                    have y4 := hcell 4 _ rfl
                    simp only at y4
                    have hblt : b < wr.drew.heap.size := hb
                    clear hcell hb
                    have z0 : wr.cell? ⟨w.heap.size, 0, none⟩ = some (.int .i64 r) := HSr.out.2.2.cell 0
                    have z1 : wr.cell? ⟨w.heap.size, 1, none⟩ = some (.int .i64 wt) := HSr.out.2.2.cell 1
                    have z2 : wr.cell? ⟨w.heap.size, 2, none⟩ = some (.int .i64 bk) := HSr.out.2.2.cell 2
                    have z3 : wr.cell? ⟨w.heap.size, 3, none⟩ = some (.int .i64 cy) := HSr.out.2.2.cell 3
                    have z4 : wr.cell? ⟨w.heap.size, 4, none⟩ = some (.string key) := HSr.out.2.2.cell 4
                    have z5 : wr.cell? ⟨w.heap.size, 5, none⟩ = some (.slice Ad ds.length cd) := HSr.out.2.2.cell 5
                    have z6 : wr.cell? ⟨w.heap.size, 6, none⟩ = some (.slice Ap ps.length cp) := HSr.out.2.2.cell 6
                    have z7 : wr.cell? ⟨w.heap.size, 7, none⟩ = some (.slice Ac cs.length cc) := HSr.out.2.2.cell 7
                    have z8 : wr.cell? ⟨w.heap.size, 8, none⟩ = some (.slice (some ⟨b, off, none⟩) es.length ce) := HSr.out.2.2.cell 8
                    by_cases hjl : j < xs.length
                    · obtain ⟨i, hi⟩ : ∃ i, xs[j]? = some i := ⟨_, List.getElem?_eq_getElem hjl⟩
                      obtain ⟨b1, off1, c1, hA, hb1lt, hcell⟩ := LawFrame.RowsAt.at_ (NumsAt.below HXP.out HW.out) hi
                      injection hA with hA hA2 hA3
                      clear hA2 hA3
                      subst hA
                      replace hb1lt : b1 < wr.drew.heap.size := hb1lt
                      have u0 := hcell 0 _ rfl
                      simp only [Nat.mul_one, Nat.add_zero] at u0
                      have hj1 : (j : Int) < (xs.length : Int) := by omega
                      have HIN : Hid ((k : Int) ∈ effectsF ⟨r, wt, bk, cy, key, ds, ps, cs, es⟩ i) := Lib.hid (effect_in HR.out HX.out (List.mem_of_getElem? hi))
                      clear hcell hi
                      have HT : Hid (HeadIs w w.heap.size ⟨r, wt, bk, cy, key, ds, ps, cs, es⟩ (.slice Ad ds.length cd) (.slice Ap ps.length cp) (.slice Ac cs.length cc) (.slice (some ⟨b, off, none⟩) es.length ce) #[.int .i64 r, .int .i64 wt, .int .i64 bk, .int .i64 cy, .string key, .slice Ad ds.length cd, .slice Ap ps.length cp, .slice Ac cs.length cc, .slice (some ⟨b, off, none⟩) es.length ce] wr.drew) := Lib.hid ⟨HSr.out.1.drew, HSr.out.2.1, HSr.out.2.2⟩
                      have HW0 := Lib.hid HW.out.drew
                      have HXR := Lib.hid (NumsAt.below HXP.out HW.out)
                      have HCC : Hid (∀ w', HeadIs w w.heap.size ⟨r, wt, bk, cy, key, ds, ps, cs, es⟩ (.slice Ad ds.length cd) (.slice Ap ps.length cp) (.slice Ac cs.length cc) (.slice (some ⟨b, off, none⟩) es.length ce) #[.int .i64 r, .int .i64 wt, .int .i64 bk, .int .i64 cy, .string key, .slice Ad ds.length cd, .slice Ap ps.length cp, .slice Ac cs.length cc, .slice (some ⟨b, off, none⟩) es.length ce] w' → Calls Try.prog 11 #[.agg #[.int .i64 r, .int .i64 wt, .int .i64 bk, .int .i64 cy, .string key, .slice Ad ds.length cd, .slice Ap ps.length cp, .slice Ac cs.length cc, .slice (some ⟨b, off, none⟩) es.length ce], .int .i64 i] w' (PicksIs (effectsF ⟨r, wt, bk, cy, key, ds, ps, cs, es⟩ i) w')) := Lib.hid (fun w' h => effects_any w' ⟨r, wt, bk, cy, key, ds, ps, cs, es⟩ _ _ _ _ h.2.1 HM.out HR.out i)
                      have hfl : (effectsF ⟨r, wt, bk, cy, key, ds, ps, cs, es⟩ i).length ≤ 1125899906842624 := Nat.le_trans (effects_le (m := ⟨r, wt, bk, cy, key, ds, ps, cs, es⟩) _) (by simp only; omega)
                      clear HW HSr
                      go_upto_region 26 with fail
                      go_region_held3 (fun w' => w'.cell? ⟨w.heap.size, 0, none⟩ = some (.int .i64 r) ∧ w'.cell? ⟨w.heap.size, 1, none⟩ = some (.int .i64 wt) ∧ w'.cell? ⟨w.heap.size, 2, none⟩ = some (.int .i64 bk) ∧ w'.cell? ⟨w.heap.size, 3, none⟩ = some (.int .i64 cy) ∧ w'.cell? ⟨w.heap.size, 4, none⟩ = some (.string key) ∧ w'.cell? ⟨w.heap.size, 5, none⟩ = some (.slice Ad ds.length cd) ∧ w'.cell? ⟨w.heap.size, 6, none⟩ = some (.slice Ap ps.length cp) ∧ w'.cell? ⟨w.heap.size, 7, none⟩ = some (.slice Ac cs.length cc) ∧ w'.cell? ⟨w.heap.size, 8, none⟩ = some (.slice (some ⟨b, off, none⟩) es.length ce) ∧ w'.cell? ⟨b, off + k * 5 + 4, none⟩ = some (.slice (some ⟨b1, off1, none⟩) xs.length ci) ∧ w'.cell? ⟨b1, off1 + j, none⟩ = some (.int .i64 i))
                        (exact ⟨z0, z1, z2, z3, z4, z5, z6, z7, z8, y4, u0⟩)
                        (first
                          | (go_at_call 11; refine (HCC.out _ HT.out).mono ?_; rintro e w6 ⟨v, rfl, hv, hb⟩; obtain ⟨Av, cv, e, hcv, -⟩ := id hv; subst e; have HV := Lib.hid hv; replace HT := Lib.hid (HT.out.below hb); replace HW0 := Lib.hid (HW0.out.trans (hb.mono HW0.out.size)); replace y4 := (hb.cell (p := ⟨b, off + k * 5 + 4, none⟩) hblt).trans y4; replace u0 := (hb.cell (p := ⟨b1, off1 + j, none⟩) hb1lt).trans u0; replace hblt := Nat.lt_of_lt_of_le hblt hb.size; replace hb1lt := Nat.lt_of_lt_of_le hb1lt hb.size; replace z0 : w6.cell? ⟨w.heap.size, 0, none⟩ = some (.int .i64 r) := HT.out.2.2.cell 0; replace z1 : w6.cell? ⟨w.heap.size, 1, none⟩ = some (.int .i64 wt) := HT.out.2.2.cell 1; replace z2 : w6.cell? ⟨w.heap.size, 2, none⟩ = some (.int .i64 bk) := HT.out.2.2.cell 2; replace z3 : w6.cell? ⟨w.heap.size, 3, none⟩ = some (.int .i64 cy) := HT.out.2.2.cell 3; replace z4 : w6.cell? ⟨w.heap.size, 4, none⟩ = some (.string key) := HT.out.2.2.cell 4; replace z5 : w6.cell? ⟨w.heap.size, 5, none⟩ = some (.slice Ad ds.length cd) := HT.out.2.2.cell 5; replace z6 : w6.cell? ⟨w.heap.size, 6, none⟩ = some (.slice Ap ps.length cp) := HT.out.2.2.cell 6; replace z7 : w6.cell? ⟨w.heap.size, 7, none⟩ = some (.slice Ac cs.length cc) := HT.out.2.2.cell 7; replace z8 : w6.cell? ⟨w.heap.size, 8, none⟩ = some (.slice (some ⟨b, off, none⟩) es.length ce) := HT.out.2.2.cell 8; clear hb hv)
                          | (go_at_call 14; refine (has_any _ _ _ HV.out hfl (k : Int)).mono ?_; rintro e w7 ⟨b9, rfl, hb9, hb⟩; obtain rfl : b9 = true := hb9.2 HIN.out; replace HT := Lib.hid (HT.out.below hb); replace HW0 := Lib.hid (HW0.out.trans (hb.mono HW0.out.size)); replace y4 := (hb.cell (p := ⟨b, off + k * 5 + 4, none⟩) hblt).trans y4; replace u0 := (hb.cell (p := ⟨b1, off1 + j, none⟩) hb1lt).trans u0; replace hblt := Nat.lt_of_lt_of_le hblt hb.size; replace hb1lt := Nat.lt_of_lt_of_le hb1lt hb.size; replace z0 : w7.cell? ⟨w.heap.size, 0, none⟩ = some (.int .i64 r) := HT.out.2.2.cell 0; replace z1 : w7.cell? ⟨w.heap.size, 1, none⟩ = some (.int .i64 wt) := HT.out.2.2.cell 1; replace z2 : w7.cell? ⟨w.heap.size, 2, none⟩ = some (.int .i64 bk) := HT.out.2.2.cell 2; replace z3 : w7.cell? ⟨w.heap.size, 3, none⟩ = some (.int .i64 cy) := HT.out.2.2.cell 3; replace z4 : w7.cell? ⟨w.heap.size, 4, none⟩ = some (.string key) := HT.out.2.2.cell 4; replace z5 : w7.cell? ⟨w.heap.size, 5, none⟩ = some (.slice Ad ds.length cd) := HT.out.2.2.cell 5; replace z6 : w7.cell? ⟨w.heap.size, 6, none⟩ = some (.slice Ap ps.length cp) := HT.out.2.2.cell 6; replace z7 : w7.cell? ⟨w.heap.size, 7, none⟩ = some (.slice Ac cs.length cc) := HT.out.2.2.cell 7; replace z8 : w7.cell? ⟨w.heap.size, 8, none⟩ = some (.slice (some ⟨b, off, none⟩) es.length ce) := HT.out.2.2.cell 8; clear hb hb9))
                      go_wp2_with fail
                      go_roundw
                      case rel => exact ⟨j + 1, by omega, by go_num, HW0⟩
                      case measure => simp [intOf]; omega
                    · have hj2 : ¬ (j : Int) < (xs.length : Int) := by omega
                      go_wp2_with fail
                      go_roundw
                      next => exact ⟨_, .int .i64 (P - (xs.length : Int)), .int .i64 ((k + 1 : Nat) : Int), ⟨k + 1, by omega, rfl, P - (xs.length : Int), rfl, by rw [← hP']; exact HPQ.out, by rw [← hP']; exact HPN⟩, rfl, rfl, by go_num⟩
                      case measure => simp [intOf]; omega
                · obtain rfl : k = es.length := by omega
                  rw [sumUpto_all] at HP
                  have z0 : wr.cell? ⟨w.heap.size, 0, none⟩ = some (.int .i64 r) := HS.out.2.2.cell 0
                  have z1 : wr.cell? ⟨w.heap.size, 1, none⟩ = some (.int .i64 wt) := HS.out.2.2.cell 1
                  have z2 : wr.cell? ⟨w.heap.size, 2, none⟩ = some (.int .i64 bk) := HS.out.2.2.cell 2
                  have z3 : wr.cell? ⟨w.heap.size, 3, none⟩ = some (.int .i64 cy) := HS.out.2.2.cell 3
                  have z4 : wr.cell? ⟨w.heap.size, 4, none⟩ = some (.string key) := HS.out.2.2.cell 4
                  have z5 : wr.cell? ⟨w.heap.size, 5, none⟩ = some (.slice Ad ds.length cd) := HS.out.2.2.cell 5
                  have z6 : wr.cell? ⟨w.heap.size, 6, none⟩ = some (.slice Ap ps.length cp) := HS.out.2.2.cell 6
                  have z7 : wr.cell? ⟨w.heap.size, 7, none⟩ = some (.slice Ac cs.length cc) := HS.out.2.2.cell 7
                  have z8 : wr.cell? ⟨w.heap.size, 8, none⟩ = some (.slice Ae es.length ce) := HS.out.2.2.cell 8
                  clear hlt hk
                  have h0 : P = 0 := by rw [HP.out, HP1.out, pairs_sum HR.out]; simp only; omega
                  subst h0
                  clear HP
                  go_wp2_with fail
                  clear z0 z1 z2 z3 z4 z5 z6 z7 z8
                  go_loopw [6, 12] (fun p i wr => ∃ (k : Nat) (P : Int), k ≤ cs.length ∧ i = .int .i64 (k : Int) ∧ p = .int .i64 P ∧ (-8 * (k : Int) ≤ P ∧ P ≤ 1000) ∧ Hid (P = (P2 : Int) - (sumUpto (fun x => x.pts.length) cs k : Nat)) ∧ Hid (HeadIs w w.heap.size ⟨r, wt, bk, cy, key, ds, ps, cs, es⟩ (.slice Ad ds.length cd) (.slice Ap ps.length cp) (.slice Ac cs.length cc) (.slice Ae es.length ce) #[.int .i64 r, .int .i64 wt, .int .i64 bk, .int .i64 cy, .string key, .slice Ad ds.length cd, .slice Ap ps.length cp, .slice Ac cs.length cc, .slice Ae es.length ce] wr)) (fun _ i _ => cs.length - (intOf i).toNat)
                  case atStart => exact ⟨0, _, Nat.zero_le _, rfl, rfl, ⟨by omega, by omega⟩, Lib.hid (by rw [sumUpto_zero]; simp), HS⟩
                  case round =>
                    clear HS
                    obtain ⟨k, P, hk, rfl, rfl, hP, HP, HS⟩ := hrel
                    have hk0 : (0 : Int) ≤ (k : Int) := by omega
                    by_cases hlt : k < cs.length
                    · obtain ⟨x, hx⟩ : ∃ x, cs[k]? = some x := ⟨_, List.getElem?_eq_getElem hlt⟩
                      have HX := Lib.hid hx
                      have hk1 : (k : Int) < (cs.length : Int) := by omega
                      have HSr := HS
                      obtain ⟨b, off, hA, hb, hcell⟩ := row_at HSr.out.2.1.2.2.1.1 HX.out
                      subst hA
                      have HXP := Lib.hid (HSr.out.2.1.2.2.1.2 x (List.mem_of_getElem? HX.out))
                      obtain ⟨x0, x1, x2, x3, xv, xs⟩ := x
                      obtain ⟨Ai, ci, e, hci, -⟩ := id HXP.out
                      simp only at e
                      subst e
                      have hxl : xs.length ≤ 8 := by have := (cs_some HR.out _ (List.mem_of_getElem? HX.out)).2.1; simp only at this; omega
                      have HPN : Hid (P - (xs.length : Int) = (P2 : Int) - (sumUpto (fun x => x.pts.length) cs (k + 1) : Nat)) := Lib.hid (by rw [sum_take _ HX.out, HP.out]; simp only; omega)
                      obtain ⟨P', hP'⟩ : ∃ P', P' = P - (xs.length : Int) := ⟨_, rfl⟩
                      have y4 := hcell 4 _ rfl
                      simp only at y4
                      clear hcell hb hx HSr
                      have hw : IntKind.i64.wrap (P - (xs.length : Int)) = P' := by rw [hP']; exact IntWalk.i64_in _ (by omega)
                      have z8 : wr.cell? ⟨w.heap.size, 7, none⟩ = some (.slice (some ⟨b, off, none⟩) cs.length cc) := HS.out.2.2.cell 7
                      rw [← hP'] at HPN
                      have hP3 : -8 * ((k + 1 : Nat) : Int) ≤ P' ∧ P' ≤ 1000 := by omega
                      have HPQ := Lib.hid hP3
                      clear hP3
                      go_wp2_with fail
                      obtain ⟨wo, rfl⟩ : ∃ wo : World, wo = wr := ⟨_, rfl⟩
                      go_loopw [13] (fun i wr => ∃ j : Nat, j ≤ xs.length ∧ i = .int .i64 (j : Int) ∧ Hid (Below wo.heap.size wo wr)) (fun i _ => xs.length - (intOf i).toNat)
                      case atStart => exact ⟨0, Nat.zero_le _, rfl, Lib.hid (Below.refl _ _)⟩
                      case round =>
                        clear y4 z8
                        obtain ⟨j, hj, rfl, HW⟩ := hrel
                        have hj0 : (0 : Int) ≤ (j : Int) := by omega
                        have HSr := Lib.hid (HS.out.below HW.out)
                        obtain ⟨b', off', hA, hb, hcell⟩ := row_at HSr.out.2.1.2.2.1.1 HX.out
                        injection hA with hA
                        injection hA with hA1 hA2 _
                        subst hA1 hA2
                        have y4 := hcell 4 _ rfl
                        simp only at y4
                        have hblt : b < wr.drew.heap.size := hb
                        clear hcell hb
                        have z0 : wr.cell? ⟨w.heap.size, 0, none⟩ = some (.int .i64 r) := HSr.out.2.2.cell 0
                        have z1 : wr.cell? ⟨w.heap.size, 1, none⟩ = some (.int .i64 wt) := HSr.out.2.2.cell 1
                        have z2 : wr.cell? ⟨w.heap.size, 2, none⟩ = some (.int .i64 bk) := HSr.out.2.2.cell 2
                        have z3 : wr.cell? ⟨w.heap.size, 3, none⟩ = some (.int .i64 cy) := HSr.out.2.2.cell 3
                        have z4 : wr.cell? ⟨w.heap.size, 4, none⟩ = some (.string key) := HSr.out.2.2.cell 4
                        have z5 : wr.cell? ⟨w.heap.size, 5, none⟩ = some (.slice Ad ds.length cd) := HSr.out.2.2.cell 5
                        have z6 : wr.cell? ⟨w.heap.size, 6, none⟩ = some (.slice Ap ps.length cp) := HSr.out.2.2.cell 6
                        have z7 : wr.cell? ⟨w.heap.size, 7, none⟩ = some (.slice (some ⟨b, off, none⟩) cs.length cc) := HSr.out.2.2.cell 7
                        have z8 : wr.cell? ⟨w.heap.size, 8, none⟩ = some (.slice Ae es.length ce) := HSr.out.2.2.cell 8
                        by_cases hjl : j < xs.length
                        · obtain ⟨i, hi⟩ : ∃ i, xs[j]? = some i := ⟨_, List.getElem?_eq_getElem hjl⟩
                          obtain ⟨b1, off1, c1, hA, hb1lt, hcell⟩ := LawFrame.RowsAt.at_ (NumsAt.below HXP.out HW.out) hi
                          injection hA with hA hA2 hA3
                          clear hA2 hA3
                          subst hA
                          replace hb1lt : b1 < wr.drew.heap.size := hb1lt
                          have u0 := hcell 0 _ rfl
                          simp only [Nat.mul_one, Nat.add_zero] at u0
                          have hj1 : (j : Int) < (xs.length : Int) := by omega
                          have HIN : Hid ((k : Int) ∈ causesF ⟨r, wt, bk, cy, key, ds, ps, cs, es⟩ i) := Lib.hid (cause_in HR.out HX.out (List.mem_of_getElem? hi))
                          clear hcell hi
                          have HT : Hid (HeadIs w w.heap.size ⟨r, wt, bk, cy, key, ds, ps, cs, es⟩ (.slice Ad ds.length cd) (.slice Ap ps.length cp) (.slice (some ⟨b, off, none⟩) cs.length cc) (.slice Ae es.length ce) #[.int .i64 r, .int .i64 wt, .int .i64 bk, .int .i64 cy, .string key, .slice Ad ds.length cd, .slice Ap ps.length cp, .slice (some ⟨b, off, none⟩) cs.length cc, .slice Ae es.length ce] wr.drew) := Lib.hid ⟨HSr.out.1.drew, HSr.out.2.1, HSr.out.2.2⟩
                          have HW0 := Lib.hid HW.out.drew
                          have HXR := Lib.hid (NumsAt.below HXP.out HW.out)
                          have HCC : Hid (∀ w', HeadIs w w.heap.size ⟨r, wt, bk, cy, key, ds, ps, cs, es⟩ (.slice Ad ds.length cd) (.slice Ap ps.length cp) (.slice (some ⟨b, off, none⟩) cs.length cc) (.slice Ae es.length ce) #[.int .i64 r, .int .i64 wt, .int .i64 bk, .int .i64 cy, .string key, .slice Ad ds.length cd, .slice Ap ps.length cp, .slice (some ⟨b, off, none⟩) cs.length cc, .slice Ae es.length ce] w' → Calls Try.prog 12 #[.agg #[.int .i64 r, .int .i64 wt, .int .i64 bk, .int .i64 cy, .string key, .slice Ad ds.length cd, .slice Ap ps.length cp, .slice (some ⟨b, off, none⟩) cs.length cc, .slice Ae es.length ce], .int .i64 i] w' (PicksIs (causesF ⟨r, wt, bk, cy, key, ds, ps, cs, es⟩ i) w')) := Lib.hid (fun w' h => causes_any w' ⟨r, wt, bk, cy, key, ds, ps, cs, es⟩ _ _ _ _ h.2.1 HM.out HR.out i)
                          have hfl : (causesF ⟨r, wt, bk, cy, key, ds, ps, cs, es⟩ i).length ≤ 1125899906842624 := Nat.le_trans (causes_le (m := ⟨r, wt, bk, cy, key, ds, ps, cs, es⟩) _) (by simp only; omega)
                          clear HW HSr
                          go_upto_region 35 with fail
                          go_region_held3 (fun w' => w'.cell? ⟨w.heap.size, 0, none⟩ = some (.int .i64 r) ∧ w'.cell? ⟨w.heap.size, 1, none⟩ = some (.int .i64 wt) ∧ w'.cell? ⟨w.heap.size, 2, none⟩ = some (.int .i64 bk) ∧ w'.cell? ⟨w.heap.size, 3, none⟩ = some (.int .i64 cy) ∧ w'.cell? ⟨w.heap.size, 4, none⟩ = some (.string key) ∧ w'.cell? ⟨w.heap.size, 5, none⟩ = some (.slice Ad ds.length cd) ∧ w'.cell? ⟨w.heap.size, 6, none⟩ = some (.slice Ap ps.length cp) ∧ w'.cell? ⟨w.heap.size, 7, none⟩ = some (.slice (some ⟨b, off, none⟩) cs.length cc) ∧ w'.cell? ⟨w.heap.size, 8, none⟩ = some (.slice Ae es.length ce) ∧ w'.cell? ⟨b, off + k * 5 + 4, none⟩ = some (.slice (some ⟨b1, off1, none⟩) xs.length ci) ∧ w'.cell? ⟨b1, off1 + j, none⟩ = some (.int .i64 i))
                            (exact ⟨z0, z1, z2, z3, z4, z5, z6, z7, z8, y4, u0⟩)
                            (first
                              | (go_at_call 12; refine (HCC.out _ HT.out).mono ?_; rintro e w6 ⟨v, rfl, hv, hb⟩; obtain ⟨Av, cv, e, hcv, -⟩ := id hv; subst e; have HV := Lib.hid hv; replace HT := Lib.hid (HT.out.below hb); replace HW0 := Lib.hid (HW0.out.trans (hb.mono HW0.out.size)); replace y4 := (hb.cell (p := ⟨b, off + k * 5 + 4, none⟩) hblt).trans y4; replace u0 := (hb.cell (p := ⟨b1, off1 + j, none⟩) hb1lt).trans u0; replace hblt := Nat.lt_of_lt_of_le hblt hb.size; replace hb1lt := Nat.lt_of_lt_of_le hb1lt hb.size; replace z0 : w6.cell? ⟨w.heap.size, 0, none⟩ = some (.int .i64 r) := HT.out.2.2.cell 0; replace z1 : w6.cell? ⟨w.heap.size, 1, none⟩ = some (.int .i64 wt) := HT.out.2.2.cell 1; replace z2 : w6.cell? ⟨w.heap.size, 2, none⟩ = some (.int .i64 bk) := HT.out.2.2.cell 2; replace z3 : w6.cell? ⟨w.heap.size, 3, none⟩ = some (.int .i64 cy) := HT.out.2.2.cell 3; replace z4 : w6.cell? ⟨w.heap.size, 4, none⟩ = some (.string key) := HT.out.2.2.cell 4; replace z5 : w6.cell? ⟨w.heap.size, 5, none⟩ = some (.slice Ad ds.length cd) := HT.out.2.2.cell 5; replace z6 : w6.cell? ⟨w.heap.size, 6, none⟩ = some (.slice Ap ps.length cp) := HT.out.2.2.cell 6; replace z7 : w6.cell? ⟨w.heap.size, 7, none⟩ = some (.slice (some ⟨b, off, none⟩) cs.length cc) := HT.out.2.2.cell 7; replace z8 : w6.cell? ⟨w.heap.size, 8, none⟩ = some (.slice Ae es.length ce) := HT.out.2.2.cell 8; clear hb hv)
                              | (go_at_call 14; refine (has_any _ _ _ HV.out hfl (k : Int)).mono ?_; rintro e w7 ⟨b9, rfl, hb9, hb⟩; obtain rfl : b9 = true := hb9.2 HIN.out; replace HT := Lib.hid (HT.out.below hb); replace HW0 := Lib.hid (HW0.out.trans (hb.mono HW0.out.size)); replace y4 := (hb.cell (p := ⟨b, off + k * 5 + 4, none⟩) hblt).trans y4; replace u0 := (hb.cell (p := ⟨b1, off1 + j, none⟩) hb1lt).trans u0; replace hblt := Nat.lt_of_lt_of_le hblt hb.size; replace hb1lt := Nat.lt_of_lt_of_le hb1lt hb.size; replace z0 : w7.cell? ⟨w.heap.size, 0, none⟩ = some (.int .i64 r) := HT.out.2.2.cell 0; replace z1 : w7.cell? ⟨w.heap.size, 1, none⟩ = some (.int .i64 wt) := HT.out.2.2.cell 1; replace z2 : w7.cell? ⟨w.heap.size, 2, none⟩ = some (.int .i64 bk) := HT.out.2.2.cell 2; replace z3 : w7.cell? ⟨w.heap.size, 3, none⟩ = some (.int .i64 cy) := HT.out.2.2.cell 3; replace z4 : w7.cell? ⟨w.heap.size, 4, none⟩ = some (.string key) := HT.out.2.2.cell 4; replace z5 : w7.cell? ⟨w.heap.size, 5, none⟩ = some (.slice Ad ds.length cd) := HT.out.2.2.cell 5; replace z6 : w7.cell? ⟨w.heap.size, 6, none⟩ = some (.slice Ap ps.length cp) := HT.out.2.2.cell 6; replace z7 : w7.cell? ⟨w.heap.size, 7, none⟩ = some (.slice (some ⟨b, off, none⟩) cs.length cc) := HT.out.2.2.cell 7; replace z8 : w7.cell? ⟨w.heap.size, 8, none⟩ = some (.slice Ae es.length ce) := HT.out.2.2.cell 8; clear hb hb9))
                          go_wp2_with fail
                          go_roundw
                          case rel => exact ⟨j + 1, by omega, by go_num, HW0⟩
                          case measure => simp [intOf]; omega
                        · have hj2 : ¬ (j : Int) < (xs.length : Int) := by omega
                          go_wp2_with fail
                          go_roundw
                          next => exact ⟨_, .int .i64 (P - (xs.length : Int)), .int .i64 ((k + 1 : Nat) : Int), ⟨k + 1, by omega, rfl, P - (xs.length : Int), rfl, by rw [← hP']; exact HPQ.out, by rw [← hP']; exact HPN⟩, rfl, rfl, by go_num⟩
                          case measure => simp [intOf]; omega
                    · obtain rfl : k = cs.length := by omega
                      rw [sumUpto_all] at HP
                      have z0 : wr.cell? ⟨w.heap.size, 0, none⟩ = some (.int .i64 r) := HS.out.2.2.cell 0
                      have z1 : wr.cell? ⟨w.heap.size, 1, none⟩ = some (.int .i64 wt) := HS.out.2.2.cell 1
                      have z2 : wr.cell? ⟨w.heap.size, 2, none⟩ = some (.int .i64 bk) := HS.out.2.2.cell 2
                      have z3 : wr.cell? ⟨w.heap.size, 3, none⟩ = some (.int .i64 cy) := HS.out.2.2.cell 3
                      have z4 : wr.cell? ⟨w.heap.size, 4, none⟩ = some (.string key) := HS.out.2.2.cell 4
                      have z5 : wr.cell? ⟨w.heap.size, 5, none⟩ = some (.slice Ad ds.length cd) := HS.out.2.2.cell 5
                      have z6 : wr.cell? ⟨w.heap.size, 6, none⟩ = some (.slice Ap ps.length cp) := HS.out.2.2.cell 6
                      have z7 : wr.cell? ⟨w.heap.size, 7, none⟩ = some (.slice Ac cs.length cc) := HS.out.2.2.cell 7
                      have z8 : wr.cell? ⟨w.heap.size, 8, none⟩ = some (.slice Ae es.length ce) := HS.out.2.2.cell 8
                      clear hlt hk
                      have h0 : P = 0 := by rw [HP.out, HP2.out, voters_sum HR.out]; simp only; omega
                      subst h0
                      have h8 : ((P3 : Int) == (es.length : Int)) = true := by rw [HP3.out, on_sum HR.out]; simp
                      go_wp2_with fail
                      go_ret
                      exact ⟨rfl, HS.out.1⟩
end Go.Proofs.Ytbpenoelmangkaa
