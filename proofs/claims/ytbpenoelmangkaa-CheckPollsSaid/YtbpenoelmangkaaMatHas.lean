/-
  SameInts and has, walked.
-/
import Derived.Test.YtbpenoelmangkaaMatGreat
namespace Go.Proofs.Ytbpenoelmangkaa
open Go.RowKit
set_option maxHeartbeats 4000000 in
set_option maxRecDepth 100000 in
theorem has_any (w : World) (l : List Int) (v : Value) (h : NumsAt w l v) (hl : l.length ≤ 1125899906842624) (n : Int) :
    Calls Try.prog 14 #[v, .int .i64 n] w (Tells (n ∈ l) w) := by
  obtain ⟨A, c, e, hc, -⟩ := id h
  subst e
  have HL := Lib.hid h
  clear h
  go_enter Try.func14, Try.ntmps14
  go_wp2_with fail
  go_loopw [5] (fun i wr => ∃ k : Nat, k ≤ l.length ∧ i = .int .i64 k ∧ Hid (Upto (fun _ x => ¬ x = n) l k) ∧ Hid (w = wr)) (fun i _ => l.length - (intOf i).toNat)
  case atStart => exact ⟨0, Nat.zero_le _, rfl, Lib.hid (upto_zero _ _), Lib.hid rfl⟩
  case round =>
    obtain ⟨k, hk, rfl, HU, HW⟩ := hrel
    by_cases hlt : k < l.length
    · obtain ⟨x, hx⟩ : ∃ x, l[k]? = some x := ⟨_, List.getElem?_eq_getElem hlt⟩
      obtain ⟨b, off, hA, hcell⟩ := one_at (w := wr) (by rw [← HW.out]; exact HL.out) hx
      subst hA
      have y0 := hcell _ rfl
      have HX := Lib.hid hx
      have hk1 : (k : Int) < (l.length : Int) := by omega
      have hk0 : (0 : Int) ≤ (k : Int) := by omega
      clear hx hcell
      by_cases e : x = n
      · have HY := Lib.hid (show n ∈ l by rw [← e]; exact List.mem_of_getElem? HX.out)
        have h1 : (x == n) = true := by simp [e]
        clear e
        go_wp2_with fail
        go_ret
        exact tells_yes HY.out (by rw [HW.out]; exact Below.refl _ _)
      · have HE := Lib.hid e
        have h1 : (x == n) = false := by simp [e]
        clear e
        go_wp2_with fail
        go_roundw
        case rel => exact ⟨k + 1, by omega, by go_num, Lib.hid (upto_step HU.out HX.out HE.out), HW⟩
        case measure => simp [intOf]; omega
    · have hkl : k = l.length := by omega
      have HA := Lib.hid (upto_all (by rw [← hkl]; exact HU.out))
      clear hkl
      have hk2 : ¬ (k : Int) < (l.length : Int) := by omega
      go_wp2_with fail
      go_ret
      exact tells_no (fun hm => by obtain ⟨i, hi⟩ := List.getElem?_of_mem hm; exact HA.out i n hi rfl) (by rw [HW.out]; exact Below.refl _ _)
end Go.Proofs.Ytbpenoelmangkaa
