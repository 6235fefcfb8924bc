/-
  The document's names, walked.
-/
import Derived.Test.YtbpenoelmangkaaMatRef5
namespace Go.Proofs.Ytbpenoelmangkaa
open Go.RowKit
theorem bytes_eq (x y : ByteArray) : (x.toList == y.toList) = true ↔ x = y := by
  rw [ByteArray.toList_eq, ByteArray.toList_eq, beq_iff_eq]
  constructor
  · intro h
    cases x with | mk a => cases y with | mk b =>
    congr 1
    exact Array.toList_inj.1 h
  · rintro rfl; rfl
theorem bytes_ne {x y : ByteArray} (h : ¬ x = y) : (x.toList == y.toList) = false := by
  cases e : (x.toList == y.toList) with
  | false => rfl
  | true => exact absurd ((bytes_eq x y).1 e) h
set_option maxHeartbeats 4000000 in
set_option maxRecDepth 100000 in
theorem rnames_any (w : World) (l : List ByteArray) (v : Value) (h : StrsAt w l v) (hl : l.length ≤ 1125899906842624) (hs : ∀ s ∈ l, s.size ≤ 1125899906842624) :
    Calls Try.prog 27 #[v] w (Tells (namesP l) w) := by
  obtain ⟨A, c, e, hc, -⟩ := id h
  subst e
  have HL := Lib.hid h
  have HS := Lib.hid hs
  clear h hs
  go_enter Try.func27, Try.ntmps27
  go_wp2_with fail
  go_loopw [3] (fun i wr => ∃ k : Nat, k ≤ l.length ∧ i = .int .i64 k ∧ Hid (Upto (fun i s => Fresh (· = ·) l s i ∧ wordB s = true) l k) ∧ Hid (Below w.heap.size w wr)) (fun i _ => l.length - (intOf i).toNat)
  case atStart => exact ⟨0, Nat.zero_le _, rfl, Lib.hid (upto_zero _ _), Lib.hid (Below.refl _ _)⟩
  case round =>
    obtain ⟨k, hk, rfl, HU, HW⟩ := hrel
    by_cases hlt : k < l.length
    · obtain ⟨x, hx⟩ : ∃ x, l[k]? = some x := ⟨_, List.getElem?_eq_getElem hlt⟩
      obtain ⟨b, off, hA, hcell⟩ := one_at (LawFrame.RowsAt.below HL.out HW.out) hx
      subst hA
      clear hcell
      have HX := Lib.hid hx
      have HXS := Lib.hid (HS.out x (List.mem_of_getElem? hx))
      have hk1 : (k : Int) < (l.length : Int) := by omega
      have hk0 : (0 : Int) ≤ (k : Int) := by omega
      clear hx
      go_wp2_with fail
      obtain ⟨wo, rfl⟩ : ∃ wo : World, wo = wr := ⟨_, rfl⟩
      go_loopw [4] (fun i wr => ∃ j : Nat, j ≤ k ∧ i = .int .i64 j ∧ Hid (FreshAt (· = ·) l k j) ∧ Hid (Below w.heap.size w wr)) (fun i _ => l.length - (intOf i).toNat)
      case atStart => exact ⟨0, Nat.zero_le _, rfl, Lib.hid (freshAt_zero _ _ _), HW⟩
      case round =>
        clear HW
        obtain ⟨j, hj, rfl, HF, HW⟩ := hrel
        obtain ⟨b', off', hA, hcell⟩ := one_at (LawFrame.RowsAt.below HL.out HW.out) HX.out
        injection hA with hA
        injection hA with hA1 hA2 _
        subst hA1 hA2
        have y0 := hcell _ rfl
        clear hcell
        by_cases hjk : j < k
        · obtain ⟨y, hy⟩ : ∃ y, l[j]? = some y := ⟨_, List.getElem?_eq_getElem (by omega)⟩
          obtain ⟨b', off', hA, hcell⟩ := one_at (LawFrame.RowsAt.below HL.out HW.out) hy
          injection hA with hA
          injection hA with hA1 hA2 _
          subst hA1 hA2
          have y1 := hcell _ rfl
          have HY := Lib.hid hy
          have hjl : (j : Int) < (l.length : Int) := by omega
          have hj0 : (0 : Int) ≤ (j : Int) := by omega
          have hjk1 : (j : Int) < (k : Int) := by omega
          clear hcell hy
          have hcs : Hid (x = y) ∧ (x.toList == y.toList) = true ∨ Hid (¬ y = x) ∧ (x.toList == y.toList) = false := by
            by_cases e : x = y
            · exact .inl ⟨Lib.hid e, (bytes_eq _ _).2 e⟩
            · exact .inr ⟨Lib.hid (fun h => e h.symm), bytes_ne e⟩
          rcases hcs with ⟨HE, hxy⟩ | ⟨HE, hxy⟩
          · have HNO := Lib.hid (show ¬ namesP l from fun hp => not_fresh hjk HY.out HE.out.symm (hp k x HX.out).1)
            go_upto_region 7 with fail
            go_quiet (fail)
            have HW1 := Lib.hid (below_drewn HW.out nq)
            clear y0 y1 HW
            generalize wr.drewN nq = wa at *
            go_wp2_with fail
            go_ret
            exact tells_no HNO.out HW1.out
          · go_upto_region 7 with fail
            go_quiet (fail)
            have HW1 := Lib.hid (below_drewn HW.out nq)
            clear y0 y1 HW
            generalize wr.drewN nq = wa at *
            go_wp2_with fail
            go_roundw
            case rel => exact ⟨j + 1, by omega, by go_num, Lib.hid (freshAt_step HF.out HX.out HY.out HE.out), HW1⟩
            case measure => simp [intOf]; omega
        · obtain rfl : j = k := by omega
          have HP : Hid (wordB x = true → Upto (fun i s => Fresh (· = ·) l s i ∧ wordB s = true) l (j + 1)) := Lib.hid (fun hp => upto_step HU.out HX.out ⟨HF.out x HX.out, hp⟩)
          have HNO : Hid (¬ wordB x = true → ¬ namesP l) := Lib.hid (fun hn hp => hn (hp j x HX.out).2)
          go_wp2_with fail
          refine (rWord_any _ x HXS.out).mono ?_
          rintro e w1 ⟨rfl, rfl⟩
          have HWB := Lib.hid (show wordB x = true ∨ wordB x = false by cases wordB x <;> simp)
          generalize wordB x = bw at *
          cases bw with
          | false =>
            go_wp2_with fail
            go_ret
            exact tells_no (HNO.out (by simp)) HW.out
          | true =>
            go_wp2_with fail
            go_roundw
            case rel => exact ⟨j + 1, by omega, by go_num, Lib.hid (HP.out (by simp)), HW⟩
            case measure => simp [intOf]; omega
    · have hkl : k = l.length := by omega
      have HA := Lib.hid (show namesP l from upto_all (by rw [← hkl]; exact HU.out))
      clear hkl
      have hk2 : ¬ (k : Int) < (l.length : Int) := by omega
      go_wp2_with fail
      go_ret
      exact tells_yes HA.out HW.out
end Go.Proofs.Ytbpenoelmangkaa
