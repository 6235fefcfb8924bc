/-
  The program's small tests, walked: within, letter, Word, keyed, same.
-/
import Derived.Test.YtbpenoelmangkaaMatRef8
namespace Go.Proofs.Ytbpenoelmangkaa
open Go.RowKit
set_option maxRecDepth 100000 in
theorem mwithin64_any (w : World) (n a b : Int) :
    Calls Try.prog 59 #[.int .i64 n, .int .i64 a, .int .i64 b] w fun e w' => e = .returned (.bool (decide (a ≤ n ∧ n ≤ b))) ∧ w = w' := by
  by_cases h0 : a ≤ n
  · by_cases h1 : n ≤ b
    · rw [decide_eq_true ⟨h0, h1⟩]
      go_enter Try.func59, Try.ntmps59
      go_wp2_with fail
      go_ret
      exact ⟨rfl, rfl⟩
    · rw [decide_eq_false (by omega)]
      go_enter Try.func59, Try.ntmps59
      go_wp2_with fail
      go_ret
      exact ⟨rfl, rfl⟩
  · rw [decide_eq_false (by omega)]
    go_enter Try.func59, Try.ntmps59
    go_wp2_with fail
    go_ret
    exact ⟨rfl, rfl⟩
set_option maxRecDepth 100000 in
theorem mwithin_any (w : World) (n a b : Int) :
    Calls Try.prog 63 #[.int .i64 n, .int .i64 a, .int .i64 b] w fun e w' => e = .returned (.bool (decide (a ≤ n ∧ n ≤ b))) ∧ w = w' := by
  by_cases h0 : a ≤ n
  · by_cases h1 : n ≤ b
    · rw [decide_eq_true ⟨h0, h1⟩]
      go_enter Try.func63, Try.ntmps63
      go_wp2_with fail
      go_ret
      exact ⟨rfl, rfl⟩
    · rw [decide_eq_false (by omega)]
      go_enter Try.func63, Try.ntmps63
      go_wp2_with fail
      go_ret
      exact ⟨rfl, rfl⟩
  · rw [decide_eq_false (by omega)]
    go_enter Try.func63, Try.ntmps63
    go_wp2_with fail
    go_ret
    exact ⟨rfl, rfl⟩
set_option maxRecDepth 100000 in
theorem lletter_any (w : World) (c : UInt8) :
    Calls Try.prog 78 #[.int .u8 c.toNat] w fun e w' => e = .returned (.bool (letterB c)) ∧ w = w' := by
  obtain ⟨ht, hf⟩ := bool_of (letterB_iff c)
  have HT := Lib.hid ht
  have HF := Lib.hid hf
  clear ht hf
  generalize (letterB c) = r at *
  generalize (c.toNat : Int) = n at *
  by_cases h0 : 97 ≤ n
  · by_cases h1 : n ≤ 122
    · obtain rfl := HT.out (.inl ⟨h0, h1⟩)
      go_enter Try.func78, Try.ntmps78
      go_wp2_with fail
      go_ret
      exact ⟨rfl, rfl⟩
    · obtain rfl := HF.out (by omega)
      have h2 : 48 ≤ n := by omega
      have h3 : ¬ n ≤ 57 := by omega
      go_enter Try.func78, Try.ntmps78
      go_wp2_with fail
      go_ret
      exact ⟨rfl, rfl⟩
  · by_cases h2 : 48 ≤ n
    · by_cases h3 : n ≤ 57
      · obtain rfl := HT.out (.inr ⟨h2, h3⟩)
        go_enter Try.func78, Try.ntmps78
        go_wp2_with fail
        go_ret
        exact ⟨rfl, rfl⟩
      · obtain rfl := HF.out (by omega)
        go_enter Try.func78, Try.ntmps78
        go_wp2_with fail
        go_ret
        exact ⟨rfl, rfl⟩
    · obtain rfl := HF.out (by omega)
      go_enter Try.func78, Try.ntmps78
      go_wp2_with fail
      go_ret
      exact ⟨rfl, rfl⟩
set_option maxRecDepth 100000 in
theorem lWord_any (w : World) (s : ByteArray) (hs : s.size ≤ 1125899906842624) :
    Calls Try.prog 60 #[.string s] w fun e w' => e = .returned (.bool (wordB s)) ∧ w = w' := by
  obtain ⟨r, hr⟩ : ∃ r, r = wordB s := ⟨_, rfl⟩
  rw [← hr]
  have HB := Lib.hid hr
  clear hr
  by_cases h1 : (s.size : Int) = 0
  case pos =>
    have HR := Lib.hid (show r = false by rw [HB.out]; unfold wordB; rw [decide_eq_false (p := 1 ≤ s.size) (by omega)]; rfl)
    have h2 : ((s.size : Int) == 0) = true := by simp [h1]
    clear h1
    go_enter Try.func60, Try.ntmps60
    go_wp2_with fail
    go_ret
    exact ⟨by rw [HR.out]; rfl, rfl⟩
  have h2 : ((s.size : Int) == 0) = false := by rw [beq_eq_false_iff_ne]; exact h1
  by_cases h3 : (s.size : Int) ≤ 16
  case neg =>
    have HR := Lib.hid (show r = false by rw [HB.out]; unfold wordB; rw [decide_eq_false (p := s.size ≤ 16) (by omega)]; simp)
    clear h1
    go_enter Try.func60, Try.ntmps60
    go_wp2_with fail
    go_ret
    exact ⟨by rw [HR.out]; rfl, rfl⟩
  have HS : Hid (r = s.data.toList.all letterB) := Lib.hid (by rw [HB.out]; unfold wordB; rw [decide_eq_true (p := 1 ≤ s.size) (by omega), decide_eq_true (p := s.size ≤ 16) (by omega)]; rfl)
  clear h1
  go_enter Try.func60, Try.ntmps60
  go_wp2_with fail
  clear h2 h3
  go_loopw [14] (fun i wr => ∃ k : Nat, k ≤ s.size ∧ i = .int .i64 k ∧ Hid (Upto (fun _ c => letterB c = true) s.data.toList k) ∧ Hid (w = wr)) (fun i _ => s.size - (intOf i).toNat)
  case atStart => exact ⟨0, Nat.zero_le _, rfl, Lib.hid (upto_zero _ _), Lib.hid rfl⟩
  case round =>
    obtain ⟨k, hk, rfl, HU, HW⟩ := hrel
    by_cases hlt : k < s.size
    · obtain ⟨c, hc⟩ := string_at hlt
      have hix := fun w => index_at (P := Try.prog) (t := 9) (by go_side) hc w
      have HC := Lib.hid hc
      have hk1 : (k : Int) < (s.size : Int) := by omega
      clear hc
      go_wp2_with fail
      refine (lletter_any _ c).mono ?_
      rintro e w1 ⟨rfl, rfl⟩
      cases hl : letterB c with
      | false =>
        have HR := Lib.hid (show r = false by rw [HS.out, all_no HC.out hl])
        clear hl hix
        go_wp2_with fail
        go_ret
        exact ⟨by rw [HR.out]; rfl, HW.out⟩
      | true =>
        have HL := Lib.hid hl
        clear hl hix
        go_wp2_with fail
        go_roundw
        case rel => exact ⟨k + 1, by omega, by go_num, Lib.hid (upto_step HU.out HC.out HL.out), HW⟩
        case measure => simp [intOf]; omega
    · have hk2 : ¬ (k : Int) < (s.size : Int) := by omega
      have hks : k = s.size := by omega
      have HR := Lib.hid (show r = true by rw [HS.out]; exact all_yes (by rw [← hks]; exact HU.out))
      clear hks
      go_wp2_with fail
      go_ret
      exact ⟨by rw [HR.out]; rfl, HW.out⟩
set_option maxRecDepth 100000 in
theorem sameS_any (w : World) (x y : ByteArray) :
    Calls Try.prog 62 #[.string x, .string y] w fun e w' => e = .returned (.bool (x.toList == y.toList)) ∧ w = w' := by
  go_enter Try.func62, Try.ntmps62
  go_wp2_with fail
  go_ret
  exact ⟨rfl, rfl⟩
set_option maxRecDepth 100000 in
theorem sameI_any (w : World) (x y : Int) :
    Calls Try.prog 80 #[.int .i64 x, .int .i64 y] w fun e w' => e = .returned (.bool (x == y)) ∧ w = w' := by
  go_enter Try.func80, Try.ntmps80
  go_wp2_with fail
  go_ret
  exact ⟨rfl, rfl⟩
end Go.Proofs.Ytbpenoelmangkaa
