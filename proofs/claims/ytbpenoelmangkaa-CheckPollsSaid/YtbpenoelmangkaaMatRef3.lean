/-
  The document's devices and names, walked.
-/
import Derived.Test.YtbpenoelmangkaaMatRef2
namespace Go.Proofs.Ytbpenoelmangkaa
open Go.RowKit
theorem row_at {α : Type} {f : α → List Value} {m : Nat} {l : List α} {A : Option Addr} {c : Nat} {w : World} (h : LawFrame.RowsAt w m f l (.slice A l.length c)) {k : Nat} {x : α} (hx : l[k]? = some x) : ∃ b off, A = some ⟨b, off, none⟩ ∧ b < w.heap.size ∧ ∀ d u, (f x)[d]? = some u → w.cell? ⟨b, off + k * m + d, none⟩ = some u := by
  obtain ⟨b, off, c', hv, hb, hc⟩ := h.at_ hx
  injection hv with hA
  exact ⟨b, off, hA, hb, hc⟩
set_option maxHeartbeats 4000000 in
set_option maxRecDepth 100000 in
theorem rdevices_any (w : World) (l : List Dev) (v : Value) (h : DevsAt w l v) (hl : l.length ≤ 1125899906842624) :
    Calls Try.prog 23 #[v] w (Tells (devsP l) w) := by
  obtain ⟨A, c, e, hc, -⟩ := id h
  subst e
  have HL := Lib.hid h
  clear h
  go_enter Try.func23, Try.ntmps23
  go_wp2_with fail
  go_loopw [3] (fun i wr => ∃ k : Nat, k ≤ l.length ∧ i = .int .i64 k ∧ Hid (Upto (devP l) l k) ∧ Hid (Below w.heap.size w wr)) (fun i _ => l.length - (intOf i).toNat)
  case atStart => exact ⟨0, Nat.zero_le _, rfl, Lib.hid (upto_zero _ _), Lib.hid (Below.refl _ _)⟩
  case round =>
    obtain ⟨k, hk, rfl, HU, HW⟩ := hrel
    by_cases hlt : k < l.length
    · obtain ⟨x, hx⟩ : ∃ x, l[k]? = some x := ⟨_, List.getElem?_eq_getElem hlt⟩
      obtain ⟨b, off, hA, hb, hcell⟩ := row_at (LawFrame.RowsAt.below HL.out HW.out) hx
      subst hA
      have y1 := hcell 1 _ rfl
      have y2 := hcell 2 _ rfl
      clear hcell
      have HX := Lib.hid hx
      have hk1 : (k : Int) < (l.length : Int) := by omega
      have hk0 : (0 : Int) ≤ (k : Int) := by omega
      clear hx hb
      go_wp2_with fail
      refine (within_any _ _ _ _).mono ?_
      rintro e w1 ⟨rfl, rfl⟩
      have HN1 : Hid (¬ (0 ≤ x.line ∧ x.line ≤ 3) → ¬ devsP l) := Lib.hid (fun hn hp => hn (hp.2 k x HX.out).1)
      by_cases c1 : 0 ≤ x.line ∧ x.line ≤ 3
      · rw [decide_eq_true c1]
        have C1 := Lib.hid c1
        clear c1
        go_wp2_with fail
        refine (within_any _ _ _ _).mono ?_
        rintro e w1 ⟨rfl, rfl⟩
        have HN2 : Hid (¬ (1 ≤ x.unit ∧ x.unit ≤ 247) → ¬ devsP l) := Lib.hid (fun hn hp => hn (hp.2 k x HX.out).2.1)
        by_cases c2 : 1 ≤ x.unit ∧ x.unit ≤ 247
        · rw [decide_eq_true c2]
          have C2 := Lib.hid c2
          clear c2 y1 y2
          go_wp2_with fail
          obtain ⟨wo, rfl⟩ : ∃ wo : World, wo = wr := ⟨_, rfl⟩
          go_loopw [4] (fun i wr => ∃ j : Nat, j ≤ k ∧ i = .int .i64 j ∧ Hid (FreshAt (fun a b : Dev => a.line = b.line ∧ a.unit = b.unit) l k j) ∧ Hid (Below w.heap.size w wr)) (fun i _ => l.length - (intOf i).toNat)
          case atStart => exact ⟨0, Nat.zero_le _, rfl, Lib.hid (freshAt_zero _ _ _), HW⟩
          case round =>
            clear HW
            obtain ⟨j, hj, rfl, HF, HW⟩ := hrel
            by_cases hjk : j < k
            · obtain ⟨b', off', hA, hb, hcell⟩ := row_at (LawFrame.RowsAt.below HL.out HW.out) HX.out
              injection hA with hA
              injection hA with hA1 hA2 _
              subst hA1 hA2
              have y1 := hcell 1 _ rfl
              have y2 := hcell 2 _ rfl
              clear hcell hb
              obtain ⟨y, hy⟩ : ∃ y, l[j]? = some y := ⟨_, List.getElem?_eq_getElem (by omega)⟩
              obtain ⟨b', off', hA, hb, hcell⟩ := row_at (LawFrame.RowsAt.below HL.out HW.out) hy
              injection hA with hA
              injection hA with hA1 hA2 _
              subst hA1 hA2
              have z1 := hcell 1 _ rfl
              have z2 := hcell 2 _ rfl
              have HY := Lib.hid hy
              have hjl : (j : Int) < (l.length : Int) := by omega
              have hj0 : (0 : Int) ≤ (j : Int) := by omega
              have hjk1 : (j : Int) < (k : Int) := by omega
              clear hcell hy hb
              have hcs : Hid (y.line = x.line ∧ y.unit = x.unit) ∧ (y.line == x.line) = true ∧ (y.unit == x.unit) = true ∨ Hid (¬ (y.line = x.line ∧ y.unit = x.unit)) ∧ ((y.line == x.line) = false ∨ (y.line == x.line) = true ∧ (y.unit == x.unit) = false) := by
                by_cases e1 : y.line = x.line <;> by_cases e2 : y.unit = x.unit <;> simp [e1, e2, Lib.hid]
              rcases hcs with ⟨HE, h1, h2⟩ | ⟨HE, hcs⟩
              · have HNO := Lib.hid (show ¬ devsP l from fun hp => not_fresh hjk HY.out HE.out (hp.2 k x HX.out).2.2)
                go_upto_region 9 with fail
                go_quiet (fail)
                have HW1 := Lib.hid (below_drewn HW.out nq)
                clear y1 y2 z1 z2 HW
                generalize wr.drewN nq = wa at *
                go_wp2_with fail
                go_ret
                exact tells_no HNO.out HW1.out
              · rcases hcs with h1 | ⟨h1, h2⟩
                all_goals
                  go_upto_region 9 with fail
                  go_quiet (fail)
                  have HW1 := Lib.hid (below_drewn HW.out nq)
                  clear y1 y2 z1 z2 HW
                  generalize wr.drewN nq = wa at *
                  go_wp2_with fail
                  go_roundw
                  case rel => exact ⟨j + 1, by omega, by go_num, Lib.hid (freshAt_step HF.out HX.out HY.out HE.out), HW1⟩
                  case measure => simp [intOf]; omega
            · obtain rfl : j = k := by omega
              have HP : Hid (Upto (devP l) l (j + 1)) := Lib.hid (upto_step HU.out HX.out ⟨C1.out, C2.out, HF.out x HX.out⟩)
              go_wp2_with fail
              go_roundw
              case rel => exact ⟨j + 1, by omega, by go_num, HP, HW⟩
              case measure => simp [intOf]; omega
        · rw [decide_eq_false c2]
          have HNO := Lib.hid (HN2.out c2)
          clear c2
          go_wp2_with fail
          go_ret
          exact tells_no HNO.out HW.out
      · rw [decide_eq_false c1]
        have HNO := Lib.hid (HN1.out c1)
        clear c1
        go_wp2_with fail
        go_ret
        exact tells_no HNO.out HW.out
    · have hkl : k = l.length := by omega
      have HA := Lib.hid (upto_all (by rw [← hkl]; exact HU.out))
      clear hkl
      have hk2 : ¬ (k : Int) < (l.length : Int) := by omega
      by_cases h1 : (l.length : Int) ≤ 4
      · go_wp2_with fail
        go_ret
        exact tells_yes ⟨by omega, HA.out⟩ HW.out
      · go_wp2_with fail
        go_ret
        exact tells_no (fun hp => absurd hp.1 (by omega)) HW.out
end Go.Proofs.Ytbpenoelmangkaa
