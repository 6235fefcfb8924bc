/-
  The document's parser: find, Lamps and num, walked where nothing is wrong.
-/
import Derived.Test.YtbpenoelmangkaaChkSame
namespace Go.Proofs.Ytbpenoelmangkaa
open Go.RowKit
def FindIs (l : List ByteArray) (s : ByteArray) (w : World) (e : Ending) (w' : World) : Prop := ∃ r : Int, e = .returned (.int .i64 r) ∧ w = w' ∧ (r = -1 ∧ ¬ s ∈ l ∨ ∃ k : Nat, r = (k : Int) ∧ l[k]? = some s ∧ Upto (fun _ x => ¬ x = s) l k)
set_option maxHeartbeats 4000000 in
set_option maxRecDepth 100000 in
theorem find_any (w : World) (l : List ByteArray) (v : Value) (h : StrsAt w l v) (hl : l.length ≤ 1125899906842624) (s : ByteArray) :
    Calls Try.prog 81 #[v, .string s] w (FindIs l s w) := by
  obtain ⟨A, c, e, hc, -⟩ := id h
  subst e
  have HL := Lib.hid h
  clear h
  go_enter Try.func81, Try.ntmps81
  go_wp2_with fail
  go_loopw [5] (fun i wr => ∃ k : Nat, k ≤ l.length ∧ i = .int .i64 k ∧ Hid (Upto (fun _ x => ¬ x = s) l k) ∧ Hid (w = wr)) (fun i _ => l.length - (intOf i).toNat)
  case atStart => exact ⟨0, Nat.zero_le _, rfl, Lib.hid (upto_zero _ _), Lib.hid rfl⟩
  case round =>
    obtain ⟨k, hk, rfl, HU, HW⟩ := hrel
    by_cases hlt : k < l.length
    · obtain ⟨x, hx⟩ : ∃ x, l[k]? = some x := ⟨_, List.getElem?_eq_getElem hlt⟩
      obtain ⟨b, off, hA, hcell⟩ := one_at (w := wr) (by rw [← HW.out]; exact HL.out) hx
      subst hA
      have y0 := hcell _ rfl
      have HX := Lib.hid hx
      have hk1 : (k : Int) < (l.length : Int) := by omega
      have hk0 : (0 : Int) ≤ (k : Int) := by omega
      clear hx hcell
      by_cases e : x = s
      · have HY := Lib.hid (show l[k]? = some s by rw [← e]; exact HX.out)
        have h1 : (x.toList == s.toList) = true := (bytes_eq _ _).2 e
        clear e
        go_wp2_with fail
        go_ret
        exact ⟨_, rfl, HW.out, .inr ⟨k, rfl, HY.out, HU.out⟩⟩
      · have HE := Lib.hid e
        have h1 : (x.toList == s.toList) = false := bytes_ne e
        clear e
        go_wp2_with fail
        go_roundw
        case rel => exact ⟨k + 1, by omega, by go_num, Lib.hid (upto_step HU.out HX.out HE.out), HW⟩
        case measure => simp [intOf]; omega
    · have hkl : k = l.length := by omega
      have HA := Lib.hid (upto_all (by rw [← hkl]; exact HU.out))
      clear hkl
      have hk2 : ¬ (k : Int) < (l.length : Int) := by omega
      have HN : Hid (¬ s ∈ l) := Lib.hid (fun hm => by obtain ⟨i, hi⟩ := List.getElem?_of_mem hm; exact HA.out i s hi rfl)
      go_wp2_with fail
      go_ret
      exact ⟨-1, rfl, HW.out, .inl ⟨rfl, HN.out⟩⟩
/-- the number of decimals -/
def numUpto (s : ByteArray) : Nat → Int
  | 0 => 0
  | k + 1 => 10 * numUpto s k + (((s.data.toList[k]?.getD 48).toNat : Int) - 48)
def numF (s : ByteArray) : Int := numUpto s s.size
theorem numUpto_next {s : ByteArray} {k : Nat} {c : UInt8} (h : s.data.toList[k]? = some c) : numUpto s (k + 1) = 10 * numUpto s k + ((c.toNat : Int) - 48) := by
  simp [numUpto, h]
/-- decimals that tell a number, two at most -/
structure NumP (s : ByteArray) : Prop where
  digits : ∀ c ∈ s.data.toList, 48 ≤ c.toNat ∧ c.toNat ≤ 57
  some_ : 1 ≤ s.size
  few : s.size ≤ 2
  first : s.size = 1 ∨ s.data.toList[0]? ≠ some 48
set_option maxHeartbeats 4000000 in
set_option maxRecDepth 100000 in
theorem num_any (w : World) (p : Value) (s : ByteArray) (hs : NumP s) (R : Int) (hR : R = numF s) :
    Calls Try.prog 56 #[p, .string s] w fun e w' => e = .returned (.int .i64 R) ∧ w = w' := by
  have HS := Lib.hid hs
  have HRR := Lib.hid hR
  have hs1 := hs.some_
  have hs2 := hs.few
  clear hs hR
  go_enter Try.func56, Try.ntmps56
  go_wp2_with fail
  go_loopw [5, 6] (fun o i wr => ∃ (k : Nat) (N : Int), k ≤ s.size ∧ i = .int .i64 k ∧ o = .int .i64 N ∧ (0 ≤ N ∧ (k = 0 → N = 0) ∧ (k ≤ 1 → N ≤ 9) ∧ N ≤ 99) ∧ Hid (N = numUpto s k) ∧ Hid (w = wr)) (fun _ i _ => s.size - (intOf i).toNat)
  case atStart => exact ⟨0, 0, Nat.zero_le _, rfl, rfl, ⟨by omega, by omega, by omega, by omega⟩, Lib.hid rfl, Lib.hid rfl⟩
  case round =>
    obtain ⟨k, N, hk, rfl, rfl, hN, HN, HW⟩ := hrel
    by_cases hlt : k < s.size
    · obtain ⟨c, hc⟩ := string_at hlt
      have hix := fun w => index_at (P := Try.prog) (t := 9) (by go_side) hc w
      have HC := Lib.hid hc
      have hk1 : (k : Int) < (s.size : Int) := by omega
      have hk5 : (k : Int) ≤ 5 := by omega
      obtain ⟨d1, d2⟩ := HS.out.digits c (List.mem_of_getElem? hc)
      have HNX := Lib.hid (numUpto_next hc)
      clear hc
      obtain ⟨n, hn⟩ : ∃ n : Int, n = (c.toNat : Int) := ⟨_, rfl⟩
      have hn1 : 48 ≤ n := by omega
      have hn2 : n ≤ 57 := by omega
      rw [← hn] at hix HNX
      clear hn d1 d2
      have HN2 : Hid (10 * N + (n - 48) = numUpto s (k + 1)) := Lib.hid (by rw [HNX.out, HN.out])
      obtain ⟨hN0, hN1, hN2, hN3⟩ := hN
      have hM : 0 ≤ 10 * N + (n - 48) ∧ (k + 1 = 0 → 10 * N + (n - 48) = 0) ∧ (k + 1 ≤ 1 → 10 * N + (n - 48) ≤ 9) ∧ 10 * N + (n - 48) ≤ 99 := by
        refine ⟨by omega, by omega, fun h => ?_, ?_⟩
        · have := hN1 (by omega); omega
        · rcases Nat.lt_or_ge k 2 with h | h
          · have := hN2 (by omega); omega
          · omega
      clear hN1 hN2
      go_wp2_with fail
      go_roundw
      case rel => exact ⟨k + 1, 10 * N + (n - 48), by omega, by go_num, by go_num, hM, HN2, HW⟩
      case measure => simp [intOf]; omega
    · have hk2 : ¬ (k : Int) < (s.size : Int) := by omega
      have hks : k = s.size := by omega
      have HF : Hid (R = N) := Lib.hid (by rw [HRR.out, HN.out, hks]; rfl)
      clear hks
      have hN3 := hN.2.2.2
      obtain ⟨c, hc⟩ := string_at (s := s) (k := 0) (by omega)
      have hix : ∀ w, (Instr.index 9 (.string s) (.int .i64 0)).run Try.prog w = .ok (.int .u8 c.toNat) w := fun w => by
        have := index_at (P := Try.prog) (t := 9) (by go_side) hc w
        simpa using this
      have hz0 : ((s.size : Int) == 0) = false := by rw [beq_eq_false_iff_ne]; omega
      have HC := Lib.hid hc
      clear hc
      rcases Nat.lt_or_ge s.size 2 with h1 | h1
      · have h2 : ¬ (1 : Int) < (s.size : Int) := by omega
        by_cases hc48 : (c.toNat : Int) = 48
        · have h48 : ((c.toNat : Int) == 48) = true := by simp [hc48]
          clear hc48
          go_wp2_with fail
          go_ret
          exact ⟨by rw [HF.out]; rfl, HW.out⟩
        · have h48 : ((c.toNat : Int) == 48) = false := by rw [beq_eq_false_iff_ne]; exact hc48
          clear hc48
          go_wp2_with fail
          go_ret
          exact ⟨by rw [HF.out]; rfl, HW.out⟩
      · have h48 : ((c.toNat : Int) == 48) = false := by
          rw [beq_eq_false_iff_ne]
          intro e
          rcases HS.out.first with h | h
          · omega
          · exact h (by rw [HC.out]; congr 1; exact UInt8.toNat_inj.1 (by have h9 : (48 : UInt8).toNat = 48 := rfl; omega))
        go_wp2_with fail
        go_ret
        exact ⟨by rw [HF.out]; rfl, HW.out⟩
end Go.Proofs.Ytbpenoelmangkaa
