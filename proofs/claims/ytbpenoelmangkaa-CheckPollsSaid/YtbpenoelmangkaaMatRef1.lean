/-
  The document's small tests, walked: within, letter, Word, Key.
-/
import Derived.Test.YtbpenoelmangkaaMatData
namespace Go.Proofs.Ytbpenoelmangkaa
open Go.RowKit
theorem letterB_iff (c : UInt8) : letterB c = true ↔ (97 ≤ (c.toNat : Int) ∧ (c.toNat : Int) ≤ 122) ∨ (48 ≤ (c.toNat : Int) ∧ (c.toNat : Int) ≤ 57) := by
  unfold letterB
  simp only [Bool.or_eq_true, Bool.and_eq_true, decide_eq_true_eq, UInt8.le_iff_toNat_le]
  simp only [show (97 : UInt8).toNat = 97 from rfl, show (122 : UInt8).toNat = 122 from rfl, show (48 : UInt8).toNat = 48 from rfl, show (57 : UInt8).toNat = 57 from rfl]
  omega
theorem hexB_iff (c : UInt8) : hexB c = true ↔ (48 ≤ (c.toNat : Int) ∧ (c.toNat : Int) ≤ 57) ∨ (97 ≤ (c.toNat : Int) ∧ (c.toNat : Int) ≤ 102) := by
  unfold hexB
  simp only [Bool.or_eq_true, Bool.and_eq_true, decide_eq_true_eq, UInt8.le_iff_toNat_le]
  simp only [show (97 : UInt8).toNat = 97 from rfl, show (102 : UInt8).toNat = 102 from rfl, show (48 : UInt8).toNat = 48 from rfl, show (57 : UInt8).toNat = 57 from rfl]
  omega
theorem bool_of {b : Bool} {p : Prop} (h : b = true ↔ p) : (p → b = true) ∧ (¬ p → b = false) := ⟨h.2, fun n => by cases b with | false => rfl | true => exact absurd (h.1 rfl) n⟩
set_option maxRecDepth 100000 in
theorem within_any (w : World) (n a b : Int) :
    Calls Try.prog 21 #[.int .i64 n, .int .i64 a, .int .i64 b] w fun e w' => e = .returned (.bool (decide (a ≤ n ∧ n ≤ b))) ∧ w = w' := by
  by_cases h0 : a ≤ n
  · by_cases h1 : n ≤ b
    · rw [decide_eq_true ⟨h0, h1⟩]
      go_enter Try.func21, Try.ntmps21
      go_wp2_with fail
      go_ret
      exact ⟨rfl, rfl⟩
    · rw [decide_eq_false (by omega)]
      go_enter Try.func21, Try.ntmps21
      go_wp2_with fail
      go_ret
      exact ⟨rfl, rfl⟩
  · rw [decide_eq_false (by omega)]
    go_enter Try.func21, Try.ntmps21
    go_wp2_with fail
    go_ret
    exact ⟨rfl, rfl⟩
set_option maxRecDepth 100000 in
theorem rletter_any (w : World) (c : UInt8) :
    Calls Try.prog 58 #[.int .u8 c.toNat] w fun e w' => e = .returned (.bool (letterB c)) ∧ w = w' := by
  obtain ⟨ht, hf⟩ := bool_of (letterB_iff c)
  have HT := Lib.hid ht
  have HF := Lib.hid hf
  clear ht hf
  generalize (letterB c) = r at *
  generalize (c.toNat : Int) = n at *
  by_cases h0 : 97 ≤ n
  · by_cases h1 : n ≤ 122
    · obtain rfl := HT.out (.inl ⟨h0, h1⟩)
      go_enter Try.func58, Try.ntmps58
      go_wp2_with fail
      go_ret
      exact ⟨rfl, rfl⟩
    · obtain rfl := HF.out (by omega)
      have h2 : 48 ≤ n := by omega
      have h3 : ¬ n ≤ 57 := by omega
      go_enter Try.func58, Try.ntmps58
      go_wp2_with fail
      go_ret
      exact ⟨rfl, rfl⟩
  · by_cases h2 : 48 ≤ n
    · by_cases h3 : n ≤ 57
      · obtain rfl := HT.out (.inr ⟨h2, h3⟩)
        go_enter Try.func58, Try.ntmps58
        go_wp2_with fail
        go_ret
        exact ⟨rfl, rfl⟩
      · obtain rfl := HF.out (by omega)
        go_enter Try.func58, Try.ntmps58
        go_wp2_with fail
        go_ret
        exact ⟨rfl, rfl⟩
    · obtain rfl := HF.out (by omega)
      go_enter Try.func58, Try.ntmps58
      go_wp2_with fail
      go_ret
      exact ⟨rfl, rfl⟩
theorem bytes_at {s : ByteArray} {k : Nat} {c : UInt8} (h : s.data.toList[k]? = some c) : k < s.size ∧ ∀ (hk : k < s.size), s[k] = c := by
  obtain ⟨hk, he⟩ := List.getElem?_eq_some_iff.1 h
  exact ⟨by simpa using hk, fun _ => by rw [← he]; simp; rfl⟩
theorem index_at {P : Program} {t : TypeId} (ht : P.underlying t = some .string) {s : ByteArray} {k : Nat} {c : UInt8} (h : s.data.toList[k]? = some c) (w : World) :
    (Instr.index t (.string s) (.int .i64 (k : Int))).run P w = .ok (.int .u8 c.toNat) w := by
  obtain ⟨hk, he⟩ := bytes_at h
  rw [run_index_string w t s .i64 _ ht, dif_pos ⟨by omega, by omega⟩]
  have e : ((k : Int)).toNat = k := by omega
  simp only [e]
  rw [he hk]
theorem string_at {s : ByteArray} {k : Nat} (h : k < s.size) : ∃ c, s.data.toList[k]? = some c := ⟨_, List.getElem?_eq_getElem (by simpa using h)⟩
theorem all_no {s : ByteArray} {p : UInt8 → Bool} {k : Nat} {c : UInt8} (h : s.data.toList[k]? = some c) (hp : p c = false) : s.data.toList.all p = false := by
  rw [List.all_eq_false]
  exact ⟨c, List.mem_of_getElem? h, by simp [hp]⟩
theorem all_yes {s : ByteArray} {p : UInt8 → Bool} (h : Upto (fun _ c => p c = true) s.data.toList s.size) : s.data.toList.all p = true := by
  rw [List.all_eq_true]
  intro c hc
  obtain ⟨i, hi⟩ := List.getElem?_of_mem hc
  exact h i c (by have := (List.getElem?_eq_some_iff.1 hi).1; simpa using this) hi
set_option maxRecDepth 100000 in
theorem rWord_any (w : World) (s : ByteArray) (hs : s.size ≤ 1125899906842624) :
    Calls Try.prog 44 #[.string s] w fun e w' => e = .returned (.bool (wordB s)) ∧ w = w' := by
  obtain ⟨r, hr⟩ : ∃ r, r = wordB s := ⟨_, rfl⟩
  rw [← hr]
  have HB := Lib.hid hr
  clear hr
  go_enter Try.func44, Try.ntmps44
  go_wp2_with fail
  go_loopw [3] (fun i wr => ∃ k : Nat, k ≤ s.size ∧ i = .int .i64 k ∧ Hid (Upto (fun _ c => letterB c = true) s.data.toList k) ∧ Hid (w = wr)) (fun i _ => s.size - (intOf i).toNat)
  case atStart => exact ⟨0, Nat.zero_le _, rfl, Lib.hid (upto_zero _ _), Lib.hid rfl⟩
  case round =>
    obtain ⟨k, hk, rfl, HU, HW⟩ := hrel
    by_cases hlt : k < s.size
    · obtain ⟨c, hc⟩ := string_at hlt
      have hix := fun w => index_at (P := Try.prog) (t := 9) (by go_side) hc w
      have HC := Lib.hid hc
      have hk1 : (k : Int) < (s.size : Int) := by omega
      clear hc
      go_wp2_with fail
      refine (rletter_any _ c).mono ?_
      rintro e w1 ⟨rfl, rfl⟩
      cases hl : letterB c with
      | false =>
        have HR := Lib.hid (show r = false by rw [HB.out]; unfold wordB; rw [all_no HC.out hl, Bool.and_false])
        clear hl hix
        go_wp2_with fail
        go_ret
        exact ⟨by rw [HR.out]; rfl, HW.out⟩
      | true =>
        have HL := Lib.hid hl
        clear hl hix
        go_wp2_with fail
        go_roundw
        case rel => exact ⟨k + 1, by omega, by go_num, Lib.hid (upto_step HU.out HC.out HL.out), HW⟩
        case measure => simp [intOf]; omega
    · have hk2 : ¬ (k : Int) < (s.size : Int) := by omega
      have hks : k = s.size := by omega
      have HA := Lib.hid (all_yes (by rw [← hks]; exact HU.out))
      clear hks
      have hr1 : Hid (r = (decide (1 ≤ s.size) && decide (s.size ≤ 16))) := Lib.hid (by rw [HB.out]; unfold wordB; rw [HA.out, Bool.and_true])
      by_cases h1 : 1 ≤ (s.size : Int)
      · by_cases h2 : (s.size : Int) ≤ 16
        · have HR := Lib.hid (show r = true by rw [hr1.out, decide_eq_true (by omega), decide_eq_true (by omega)]; rfl)
          go_wp2_with fail
          go_ret
          exact ⟨by rw [HR.out]; rfl, HW.out⟩
        · have HR := Lib.hid (show r = false by rw [hr1.out, decide_eq_false (p := s.size ≤ 16) (by omega), Bool.and_false])
          go_wp2_with fail
          go_ret
          exact ⟨by rw [HR.out]; rfl, HW.out⟩
      · have HR := Lib.hid (show r = false by rw [hr1.out, decide_eq_false (p := 1 ≤ s.size) (by omega), Bool.false_and])
        go_wp2_with fail
        go_ret
        exact ⟨by rw [HR.out]; rfl, HW.out⟩
theorem hex_cases (c : UInt8) : ∃ n : Int, n = (c.toNat : Int) ∧ ((hexB c = true ∧ ((n < 48) = False ∧ ((57 < n) = False ∨ (57 < n) = True ∧ (n < 97) = False ∧ (102 < n) = False))) ∨ (hexB c = false ∧ ((n < 48) = True ∧ (n < 97) = True ∨ (n < 48) = False ∧ (57 < n) = True ∧ ((n < 97) = True ∨ (n < 97) = False ∧ (102 < n) = True)))) := by
  refine ⟨_, rfl, ?_⟩
  have h := hexB_iff c
  cases e : hexB c with
  | true =>
    have := h.1 e
    simp only [eq_iff_iff, iff_false, iff_true, true_and, false_and, or_false, reduceCtorEq]
    omega
  | false =>
    have : ¬ _ := fun x => by have := h.2 x; rw [e] at this; cases this
    simp only [eq_iff_iff, iff_false, iff_true, true_and, false_and, false_or, reduceCtorEq]
    omega
set_option maxRecDepth 100000 in
theorem rKey_any (w : World) (s : ByteArray) (hs : s.size ≤ 1125899906842624) :
    Calls Try.prog 22 #[.string s] w fun e w' => e = .returned (.bool (keyB s)) ∧ w = w' := by
  obtain ⟨r, hr⟩ : ∃ r, r = keyB s := ⟨_, rfl⟩
  rw [← hr]
  have HB := Lib.hid hr
  clear hr
  go_enter Try.func22, Try.ntmps22
  go_wp2_with fail
  go_loopw [3] (fun i wr => ∃ k : Nat, k ≤ s.size ∧ i = .int .i64 k ∧ Hid (Upto (fun _ c => hexB c = true) s.data.toList k) ∧ Hid (w = wr)) (fun i _ => s.size - (intOf i).toNat)
  case atStart => exact ⟨0, Nat.zero_le _, rfl, Lib.hid (upto_zero _ _), Lib.hid rfl⟩
  case round =>
    obtain ⟨k, hk, rfl, HU, HW⟩ := hrel
    by_cases hlt : k < s.size
    · obtain ⟨c, hc⟩ := string_at hlt
      have hix := fun w => index_at (P := Try.prog) (t := 9) (by go_side) hc w
      have HC := Lib.hid hc
      have hk1 : (k : Int) < (s.size : Int) := by omega
      clear hc
      obtain ⟨n, hn, hcs⟩ := hex_cases c
      rw [← hn] at hix
      clear hn
      rcases hcs with ⟨hl, h1, hcs⟩ | ⟨hl, hcs⟩
      · have HL := Lib.hid hl
        clear hl
        rcases hcs with h2 | ⟨h2, h3, h4⟩
        · have g1 : ¬ n < 48 := by simp [h1]
          have g2 : ¬ 57 < n := by simp [h2]
          clear h1 h2
          go_wp2_with fail
          go_roundw
          case rel => exact ⟨k + 1, by omega, by go_num, Lib.hid (upto_step HU.out HC.out HL.out), HW⟩
          case measure => simp [intOf]; omega
        · have g1 : ¬ n < 48 := by simp [h1]
          have g2 : 57 < n := by simp [h2]
          have g3 : ¬ n < 97 := by simp [h3]
          have g4 : ¬ 102 < n := by simp [h4]
          clear h1 h2 h3 h4
          go_wp2_with fail
          go_roundw
          case rel => exact ⟨k + 1, by omega, by go_num, Lib.hid (upto_step HU.out HC.out HL.out), HW⟩
          case measure => simp [intOf]; omega
      · have HR := Lib.hid (show r = false by rw [HB.out]; unfold keyB; rw [all_no HC.out hl, Bool.and_false])
        clear hl
        rcases hcs with ⟨h1, h2⟩ | ⟨h1, h2, hcs⟩
        · have g1 : n < 48 := by simp [h1]
          have g2 : n < 97 := by simp [h2]
          clear h1 h2
          go_wp2_with fail
          go_ret
          exact ⟨by rw [HR.out]; rfl, HW.out⟩
        · rcases hcs with h3 | ⟨h3, h4⟩
          · have g1 : ¬ n < 48 := by simp [h1]
            have g2 : 57 < n := by simp [h2]
            have g3 : n < 97 := by simp [h3]
            clear h1 h2 h3
            go_wp2_with fail
            go_ret
            exact ⟨by rw [HR.out]; rfl, HW.out⟩
          · have g1 : ¬ n < 48 := by simp [h1]
            have g2 : 57 < n := by simp [h2]
            have g3 : ¬ n < 97 := by simp [h3]
            have g4 : 102 < n := by simp [h4]
            clear h1 h2 h3 h4
            go_wp2_with fail
            go_ret
            exact ⟨by rw [HR.out]; rfl, HW.out⟩
    · have hk2 : ¬ (k : Int) < (s.size : Int) := by omega
      have hks : k = s.size := by omega
      have HA := Lib.hid (all_yes (by rw [← hks]; exact HU.out))
      clear hks
      have hr1 : Hid (r = decide (s.size = 16)) := Lib.hid (by rw [HB.out]; unfold keyB; rw [HA.out, Bool.and_true])
      have h1 : ((s.size : Int) == 16) = r := by rw [hr1.out]; by_cases e : s.size = 16 <;> simp [e] <;> omega
      go_wp2_with fail
      go_ret
      exact ⟨rfl, HW.out⟩
end Go.Proofs.Ytbpenoelmangkaa
