/-
  THE LAW LexBlanks, walked.
-/
import Derived.Test.YtpoihpehdlogbaaDoorLawJoin
namespace Go.Proofs.YtpoihpehdlogbaaDoor
open Go.RowKit
def blanksB (j : Nat) : ByteArray := toB (List.replicate j 32)
theorem blanks_next (j : Nat) : blanksB j ++ ⟨#[32]⟩ = blanksB (j + 1) := by
  rw [← toB_of (blanksB j ++ ⟨#[32]⟩), concat_list]
  unfold blanksB
  rw [toB_list, List.replicate_succ']
set_option maxHeartbeats 4000000 in
set_option maxRecDepth 100000 in
theorem lexBlanks_any (w : World) (s : ByteArray) (n : Nat) (r : ByteArray) (hn : n < 256) (hs : s.size ≤ 1125899906842624) (hr : r.size ≤ 1125899906842624) (htab : Tab w) :
    Calls Tryd.prog 4 #[.string s, .int .u8 n, .string r] w fun e w' => e = .returned (.bool true) ∧ Below w.heap.size w w' := by
  have HT := Lib.hid htab
  clear htab
  go_enter Tryd.func4, Tryd.ntmps4
  have hn0 : (0 : Int) ≤ (n : Int) := by omega
  have hn1 : (n : Int) < 256 := by omega
  by_cases hbig : (3000 : Int) < (s.size : Int) + (r.size : Int) + (n : Int)
  · go_wp2_with (go_at_call 7; refine (head_any w HT.out).mono ?_; rintro e w1 ⟨rfl, h1⟩; have H1 := Lib.hid h1; clear h1)
    go_ret
    exact ⟨rfl, H1.out⟩
  have HSZ := Lib.hid (show s.size + r.size ≤ 3000 by omega)
  go_wp2_with (go_at_call 7; refine (head_any w HT.out).mono ?_; rintro e w1 ⟨rfl, h1⟩; have H1 := Lib.hid h1; clear h1)
  obtain ⟨R, hR⟩ : ∃ R, R = n % 9 := ⟨_, rfl⟩
  have hrem : Int.tmod (n : Int) 9 = (R : Int) := by rw [hR, Int.tmod_eq_emod_of_nonneg hn0]; omega
  have hR0 : (0 : Int) ≤ (R : Int) := by omega
  have hR9 : (R : Int) < 9 := by omega
  have HRE := Lib.hid hR
  clear hR
  go_loopw [8, 9] (fun b i wr => ∃ j : Nat, j ≤ R ∧ i = .int .i64 j ∧ b = .string (blanksB j) ∧ Hid (w1 = wr)) (fun _ i _ => R - (intOf i).toNat)
  case atStart => exact ⟨0, Nat.zero_le _, rfl, rfl, Lib.hid rfl⟩
  case round =>
    obtain ⟨j, hj, rfl, rfl, HW⟩ := hrel
    have hbs : (blanksB j).size ≤ 100 := by unfold blanksB; rw [toB_size, List.length_replicate]; omega
    by_cases hlt : j < R
    · have hj1 : (j : Int) < (R : Int) := by omega
      have HBN := Lib.hid (blanks_next j)
      obtain ⟨bj, hbj⟩ : ∃ bj, bj = blanksB j := ⟨_, rfl⟩
      rw [← hbj] at hbs HBN ⊢
      clear hbj
      go_wp2_with fail
      go_roundw
      case rel => exact ⟨j + 1, by omega, by go_num, by rw [← HBN.out], HW⟩
      case measure => simp [intOf]; omega
    · have hj2 : ¬ (j : Int) < (R : Int) := by omega
      obtain rfl := HW.out
      obtain rfl : j = R := by omega
      go_wp2_with fail
      go_loopw [10] (fun i wr => ∃ k : Nat, k ≤ r.size ∧ i = .int .i64 k ∧ Hid (Upto (fun _ c => c ≠ (10 : UInt8)) r.data.toList k) ∧ Hid (w1 = wr)) (fun i _ => r.size - (intOf i).toNat)
      case atStart => exact ⟨0, Nat.zero_le _, rfl, Lib.hid (upto_zero _ _), Lib.hid rfl⟩
      case round =>
        obtain ⟨k, hk, rfl, HU, HW⟩ := hrel
        by_cases hlt : k < r.size
        · obtain ⟨c, hc⟩ := string_at hlt
          have hix := fun w => index_at (P := Tryd.prog) (t := 9) (by go_side) hc w
          have HC := Lib.hid hc
          have hk1 : (k : Int) < (r.size : Int) := by omega
          clear hc
          by_cases h10 : c = 10
          · have h33 : (c.toNat : Int) = 10 := by subst h10; rfl
            clear h10
            generalize (c.toNat : Int) = n at *
            subst h33
            obtain rfl := HW.out
            go_wp2_with fail
            go_ret
            exact ⟨rfl, H1.out⟩
          · have h33 : ((c.toNat : Int) == 10) = false := by rw [beq_eq_false_iff_ne]; intro e; exact h10 (UInt8.toNat_inj.1 (by rw [show (10 : UInt8).toNat = 10 from rfl]; omega))
            have HNE := Lib.hid h10
            clear h10
            go_wp2_with fail
            go_roundw
            case rel => exact ⟨k + 1, by omega, by go_num, Lib.hid (upto_step HU.out HC.out HNE.out), HW⟩
            case measure => simp [intOf]; omega
        · have hk2 : ¬ (k : Int) < (r.size : Int) := by omega
          obtain rfl := HW.out
          have hrl : (10 : UInt8) ∉ r.data.toList := fun hm => by
            obtain ⟨i, hi⟩ := List.getElem?_of_mem hm
            exact HU.out i 10 (by have := (List.getElem?_eq_some_iff.1 hi).1; simp at this; omega) hi rfl
          have htb := text_blanks j s.data.toList r.data.toList hrl
          obtain ⟨bj, hbj⟩ : ∃ bj, bj = blanksB j := ⟨_, rfl⟩
          have hbl : bj.data.toList = List.replicate j 32 := by rw [hbj]; unfold blanksB; rw [toB_list]
          have hbs2 : bj.size ≤ 100 := by rw [hbj]; exact hbs
          rw [← hbj]
          obtain ⟨J, hJ⟩ : ∃ J, J = bj ++ s ++ bj ++ ⟨#[35]⟩ ++ r := ⟨_, rfl⟩
          have hJL : J.data.toList = List.replicate j 32 ++ (s.data.toList ++ (List.replicate j 32 ++ 35 :: r.data.toList)) := by
            rw [hJ]
            simp only [concat_list, hbl, List.append_assoc]
            rfl
          have hJZ : J.size ≤ 4096 := by
            rw [hJ]
            simp only [concat_size]
            have h1 := HSZ.out
            have h2 : (⟨#[35]⟩ : ByteArray).size = 1 := rfl
            omega
          have hsl : s.data.toList.length = s.size := by simp
          have hjl : J.data.toList.length = J.size := by simp
          have hEJ : textE J.data.toList = textE s.data.toList := by
            rw [textE_short (by rw [hjl]; exact hJZ), textE_short (by rw [hsl]; have := HSZ.out; omega), hJL]; exact htb.1
          have hTJ : textL J.data.toList = textL s.data.toList := by rw [hJL]; exact htb.2
          have HJ := Lib.hid hJ
          have HJZ := Lib.hid hJZ
          have HEJ := Lib.hid hEJ
          have HTJ := Lib.hid hTJ
          have hs5 : s.size ≤ 3000 := by have := HSZ.out; omega
          have hr5 : r.size ≤ 3000 := by have := HSZ.out; omega
          clear htb hbl hJ hJL hJZ hsl hjl hEJ hTJ hrl hbj
          go_wp2_with fail
          refine (lines_all w1 s (by have := HSZ.out; omega) (HT.out.below H1.out (Nat.le_refl _))).mono ?_
          rintro e w2 ⟨xs, A, c, k1, no1, rfl, hl1, hb1, hf1⟩
          have HL1 := Lib.hid hl1
          have HF1 := Lib.hid hf1
          have H2 := Lib.hid (H1.out.trans (hb1.mono H1.out.size))
          clear hl1 hb1 hf1
          go_wp2_with fail
          rw [← HJ.out]
          refine (lines_all w2 J (by have := HJZ.out; omega) (HT.out.below H2.out (Nat.le_refl _))).mono ?_
          rintro e w3 ⟨zs, A3, c3, k3, no3, rfl, hl3, hb3, hf3⟩
          have HL2 := Lib.hid (HL1.out.below hb3)
          have HL3 := Lib.hid hl3
          have H3 := Lib.hid (H2.out.trans (hb3.mono H2.out.size))
          rw [HEJ.out, HTJ.out] at hf3
          have hsame : k1 = k3 ∧ no1 = no3 ∧ xs.map Ln.told = zs.map Ln.told := by
            rcases HF1.out with ⟨h1, rfl⟩ | ⟨h1, rfl, rfl, h2⟩
            · rcases hf3 with ⟨h3, rfl⟩ | ⟨h3, -⟩
              · rw [h1] at h3
                simp only [Option.some.injEq, Prod.mk.injEq] at h3
                exact ⟨h3.1, h3.2, rfl⟩
              · rw [h1] at h3; cases h3
            · rcases hf3 with ⟨h3, -⟩ | ⟨-, rfl, rfl, h4⟩
              · rw [h1] at h3; cases h3
              · exact ⟨rfl, rfl, h2.trans h4.symm⟩
          have HXL := Lib.hid (show xs.length ≤ 1125899906842624 by
            have h1 := told_len HF1.out
            have h2 : s.data.toList.length = s.size := by simp
            omega)
          have HZL := Lib.hid (show zs.length ≤ 1125899906842624 by have h1 := congrArg List.length hsame.2.2; rw [List.length_map, List.length_map] at h1; have h2 := HXL.out; omega)
          have HSAME := Lib.hid (decide_eq_true (p := xs.map Ln.told = zs.map Ln.told) hsame.2.2)
          obtain ⟨rfl, rfl, -⟩ := hsame
          clear hl3 hb3 hf3 HL1
          go_wp2_with fail
          refine (same_any _ xs zs _ _ HL2.out HL3.out HXL.out HZL.out).mono ?_
          rintro e w6 ⟨rfl, q, rfl⟩
          rw [HSAME.out]
          go_wp2_with fail
          go_ret
          exact ⟨rfl, below_drewn H3.out q⟩
end Go.Proofs.YtpoihpehdlogbaaDoor
