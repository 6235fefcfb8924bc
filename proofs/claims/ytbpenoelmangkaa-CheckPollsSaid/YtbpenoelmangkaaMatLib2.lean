/-
  The program's twins, walked.
-/
import Derived.Test.YtbpenoelmangkaaMatLib1
namespace Go.Proofs.Ytbpenoelmangkaa
open Go.RowKit
theorem tells_call {p q : Prop} {w : World} {e : Ending} {w' : World} (h : Tells p w e w') (hpq : p ↔ q) : Tells q w e w' := by
  obtain ⟨b, e, hb, hB⟩ := h
  exact ⟨b, e, hb.trans hpq, hB⟩
set_option maxHeartbeats 4000000 in
set_option maxRecDepth 100000 in
theorem twinsS_any (w : World) (l : List ByteArray) (v : Value) (h : StrsAt w l v) (hl : l.length ≤ 1125899906842624) :
    Calls Try.prog 61 #[v, .func (.func 62) #[] #[]] w (Tells (¬ All (fun i s => Fresh (· = ·) l s i) l) w) := by
  obtain ⟨A, c, e, hc, -⟩ := id h
  subst e
  have HL := Lib.hid h
  clear h
  go_enter Try.func61, Try.ntmps61
  go_wp2_with fail
  go_loopw [9] (fun i wr => ∃ k : Nat, k ≤ l.length ∧ i = .int .i64 k ∧ Hid (Upto (fun i s => Fresh (· = ·) l s i) l k) ∧ Hid (Below w.heap.size w wr)) (fun i _ => l.length - (intOf i).toNat)
  case atStart => exact ⟨0, Nat.zero_le _, rfl, Lib.hid (upto_zero _ _), Lib.hid (Below.refl _ _)⟩
  case round =>
    obtain ⟨k, hk, rfl, HU, HW⟩ := hrel
    by_cases hlt : k < l.length
    · obtain ⟨x, hx⟩ : ∃ x, l[k]? = some x := ⟨_, List.getElem?_eq_getElem hlt⟩
      obtain ⟨b, off, hA, hcell⟩ := one_at (LawFrame.RowsAt.below HL.out HW.out) hx
      subst hA
      clear hcell
      have HX := Lib.hid hx
      have hk1 : (k : Int) < (l.length : Int) := by omega
      have hk0 : (0 : Int) ≤ (k : Int) := by omega
      clear hx
      go_wp2_with fail
      obtain ⟨wo, rfl⟩ : ∃ wo : World, wo = wr := ⟨_, rfl⟩
      go_loopw [13] (fun i wr => ∃ j : Nat, j ≤ k ∧ i = .int .i64 j ∧ Hid (FreshAt (· = ·) l k j) ∧ Hid (Below w.heap.size w wr)) (fun i _ => l.length - (intOf i).toNat)
      case atStart => exact ⟨0, Nat.zero_le _, rfl, Lib.hid (freshAt_zero _ _ _), HW⟩
      case round =>
        clear HW
        obtain ⟨j, hj, rfl, HF, HW⟩ := hrel
        by_cases hjk : j < k
        · obtain ⟨b', off', hA, hcell⟩ := one_at (LawFrame.RowsAt.below HL.out HW.out) HX.out
          injection hA with hA
          injection hA with hA1 hA2 _
          subst hA1 hA2
          have y0 := hcell _ rfl
          clear hcell
          obtain ⟨y, hy⟩ : ∃ y, l[j]? = some y := ⟨_, List.getElem?_eq_getElem (by omega)⟩
          obtain ⟨b', off', hA, hcell⟩ := one_at (LawFrame.RowsAt.below HL.out HW.out) hy
          injection hA with hA
          injection hA with hA1 hA2 _
          subst hA1 hA2
          have y1 := hcell _ rfl
          have HY := Lib.hid hy
          have hjl : (j : Int) < (l.length : Int) := by omega
          have hj0 : (0 : Int) ≤ (j : Int) := by omega
          have hjk1 : (j : Int) < (k : Int) := by omega
          clear hcell hy
          go_upto_region 7 with fail
          go_still_tail 9, (by kernel_rfl)
          have HW1 := Lib.hid HW.out.drew
          change wpList _ _ _ _ _ wr.drew
          clear y0 y1 HW
          generalize wr.drew = wa at *
          go_wp2_with fail
          refine (sameS_any _ y x).mono ?_
          rintro e w1 ⟨rfl, rfl⟩
          have hcs : Hid (y = x) ∧ (y.toList == x.toList) = true ∨ Hid (¬ y = x) ∧ (y.toList == x.toList) = false := by
            by_cases e : y = x
            · exact .inl ⟨Lib.hid e, (bytes_eq _ _).2 e⟩
            · exact .inr ⟨Lib.hid e, bytes_ne e⟩
          rcases hcs with ⟨HE, hxy⟩ | ⟨HE, hxy⟩
          · have HNO := Lib.hid (show ¬ All (fun i s => Fresh (· = ·) l s i) l from fun hp => not_fresh hjk HY.out HE.out (hp k x HX.out))
            rw [hxy]
            clear hxy
            go_wp2_with fail
            go_ret
            exact tells_yes HNO.out HW1.out
          · rw [hxy]
            clear hxy
            go_wp2_with fail
            go_roundw
            case rel => exact ⟨j + 1, by omega, by go_num, Lib.hid (freshAt_step HF.out HX.out HY.out HE.out), HW1⟩
            case measure => simp [intOf]; omega
        · obtain rfl : j = k := by omega
          have HP := Lib.hid (upto_step HU.out HX.out (HF.out x HX.out))
          go_wp2_with fail
          go_roundw
          case rel => exact ⟨j + 1, by omega, by go_num, HP, HW⟩
          case measure => simp [intOf]; omega
    · have hkl : k = l.length := by omega
      have HA := Lib.hid (upto_all (by rw [← hkl]; exact HU.out))
      clear hkl
      have hk2 : ¬ (k : Int) < (l.length : Int) := by omega
      go_wp2_with fail
      go_ret
      exact tells_no (fun hn => hn HA.out) HW.out
set_option maxHeartbeats 4000000 in
set_option maxRecDepth 100000 in
theorem twinsI_any (w : World) (l : List Int) (v : Value) (h : NumsAt w l v) (hl : l.length ≤ 1125899906842624) :
    Calls Try.prog 79 #[v, .func (.func 80) #[] #[]] w (Tells (¬ All (fun i s => Fresh (· = ·) l s i) l) w) := by
  obtain ⟨A, c, e, hc, -⟩ := id h
  subst e
  have HL := Lib.hid h
  clear h
  go_enter Try.func79, Try.ntmps79
  go_wp2_with fail
  go_loopw [9] (fun i wr => ∃ k : Nat, k ≤ l.length ∧ i = .int .i64 k ∧ Hid (Upto (fun i s => Fresh (· = ·) l s i) l k) ∧ Hid (Below w.heap.size w wr)) (fun i _ => l.length - (intOf i).toNat)
  case atStart => exact ⟨0, Nat.zero_le _, rfl, Lib.hid (upto_zero _ _), Lib.hid (Below.refl _ _)⟩
  case round =>
    obtain ⟨k, hk, rfl, HU, HW⟩ := hrel
    by_cases hlt : k < l.length
    · obtain ⟨x, hx⟩ : ∃ x, l[k]? = some x := ⟨_, List.getElem?_eq_getElem hlt⟩
      obtain ⟨b, off, hA, hcell⟩ := one_at (LawFrame.RowsAt.below HL.out HW.out) hx
      subst hA
      clear hcell
      have HX := Lib.hid hx
      have hk1 : (k : Int) < (l.length : Int) := by omega
      have hk0 : (0 : Int) ≤ (k : Int) := by omega
      clear hx
      go_wp2_with fail
      obtain ⟨wo, rfl⟩ : ∃ wo : World, wo = wr := ⟨_, rfl⟩
      go_loopw [13] (fun i wr => ∃ j : Nat, j ≤ k ∧ i = .int .i64 j ∧ Hid (FreshAt (· = ·) l k j) ∧ Hid (Below w.heap.size w wr)) (fun i _ => l.length - (intOf i).toNat)
      case atStart => exact ⟨0, Nat.zero_le _, rfl, Lib.hid (freshAt_zero _ _ _), HW⟩
      case round =>
        clear HW
        obtain ⟨j, hj, rfl, HF, HW⟩ := hrel
        by_cases hjk : j < k
        · obtain ⟨b', off', hA, hcell⟩ := one_at (LawFrame.RowsAt.below HL.out HW.out) HX.out
          injection hA with hA
          injection hA with hA1 hA2 _
          subst hA1 hA2
          have y0 := hcell _ rfl
          clear hcell
          obtain ⟨y, hy⟩ : ∃ y, l[j]? = some y := ⟨_, List.getElem?_eq_getElem (by omega)⟩
          obtain ⟨b', off', hA, hcell⟩ := one_at (LawFrame.RowsAt.below HL.out HW.out) hy
          injection hA with hA
          injection hA with hA1 hA2 _
          subst hA1 hA2
          have y1 := hcell _ rfl
          have HY := Lib.hid hy
          have hjl : (j : Int) < (l.length : Int) := by omega
          have hj0 : (0 : Int) ≤ (j : Int) := by omega
          have hjk1 : (j : Int) < (k : Int) := by omega
          clear hcell hy
          go_upto_region 7 with fail
          go_still_tail 9, (by kernel_rfl)
          have HW1 := Lib.hid HW.out.drew
          change wpList _ _ _ _ _ wr.drew
          clear y0 y1 HW
          generalize wr.drew = wa at *
          go_wp2_with fail
          refine (sameI_any _ y x).mono ?_
          rintro e w1 ⟨rfl, rfl⟩
          have hcs : Hid (y = x) ∧ (y == x) = true ∨ Hid (¬ y = x) ∧ (y == x) = false := by
            by_cases e : y = x
            · exact .inl ⟨Lib.hid e, by simp [e]⟩
            · exact .inr ⟨Lib.hid e, by simp [e]⟩
          rcases hcs with ⟨HE, hxy⟩ | ⟨HE, hxy⟩
          · have HNO := Lib.hid (show ¬ All (fun i s => Fresh (· = ·) l s i) l from fun hp => not_fresh hjk HY.out HE.out (hp k x HX.out))
            rw [hxy]
            clear hxy
            go_wp2_with fail
            go_ret
            exact tells_yes HNO.out HW1.out
          · rw [hxy]
            clear hxy
            go_wp2_with fail
            go_roundw
            case rel => exact ⟨j + 1, by omega, by go_num, Lib.hid (freshAt_step HF.out HX.out HY.out HE.out), HW1⟩
            case measure => simp [intOf]; omega
        · obtain rfl : j = k := by omega
          have HP := Lib.hid (upto_step HU.out HX.out (HF.out x HX.out))
          go_wp2_with fail
          go_roundw
          case rel => exact ⟨j + 1, by omega, by go_num, HP, HW⟩
          case measure => simp [intOf]; omega
    · have hkl : k = l.length := by omega
      have HA := Lib.hid (upto_all (by rw [← hkl]; exact HU.out))
      clear hkl
      have hk2 : ¬ (k : Int) < (l.length : Int) := by omega
      go_wp2_with fail
      go_ret
      exact tells_no (fun hn => hn HA.out) HW.out
end Go.Proofs.Ytbpenoelmangkaa
