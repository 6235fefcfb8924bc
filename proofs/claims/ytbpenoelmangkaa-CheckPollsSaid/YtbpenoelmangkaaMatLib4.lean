/-
  The program's times, keyed and picks, walked.
-/
import Derived.Test.YtbpenoelmangkaaMatLib3
namespace Go.Proofs.Ytbpenoelmangkaa
open Go.RowKit
set_option maxHeartbeats 4000000 in
set_option maxRecDepth 100000 in
theorem times_any (w : World) (m : Mat) (vd vp vc ve : Value) (h : MatAt w m vd vp vc ve) :
    Calls Try.prog 45 #[m.val vd vp vc ve] w (Tells (timesP m) w) := by
  obtain ⟨r, wt, bk, cy, key, ds, ps, cs, es⟩ := m
  obtain ⟨Ad, cd, e, hcd, -⟩ := id h.1
  simp only at e
  subst e
  obtain ⟨Ap, cp, e, hcp, -⟩ := id h.2.1
  simp only at e
  subst e
  obtain ⟨Ac, cc, e, hcc, -⟩ := id h.2.2.1.1
  simp only at e
  subst e
  obtain ⟨Ae, ce, e, hce, -⟩ := id h.2.2.2.1
  simp only at e
  subst e
  have HL := Lib.hid h
  clear h
  unfold Mat.val
  simp only
  have HQ := Lib.hid ((Below.refl w.heap.size w).alloc (Nat.le_refl _) (.cells #[.int .i64 r, .int .i64 wt, .int .i64 bk, .int .i64 cy, .string key, .slice Ad ds.length cd, .slice Ap ps.length cp, .slice Ac cs.length cc, .slice Ae es.length ce] 27))
  go_enter Try.func45, Try.ntmps45
  go_wp2_with fail
  refine (mwithin64_any _ _ _ _).mono ?_
  rintro e w2 ⟨rfl, rfl⟩
  by_cases c1 : 0 ≤ r ∧ r ≤ 7
  case neg =>
    rw [decide_eq_false c1]
    have HNO : Hid (¬ timesP ⟨r, wt, bk, cy, key, ds, ps, cs, es⟩) := Lib.hid (fun hp => c1 hp.1)
    clear c1
    go_wp2_with fail
    go_ret
    exact tells_no HNO.out HQ.out
  rw [decide_eq_true c1]
  have C1 := Lib.hid c1
  clear c1
  go_wp2_with fail
  refine (mwithin64_any _ _ _ _).mono ?_
  rintro e w2 ⟨rfl, rfl⟩
  by_cases c2 : 1 ≤ wt ∧ wt ≤ 1000
  case neg =>
    rw [decide_eq_false c2]
    have HNO : Hid (¬ timesP ⟨r, wt, bk, cy, key, ds, ps, cs, es⟩) := Lib.hid (fun hp => c2 hp.2.1)
    clear c2
    go_wp2_with fail
    go_ret
    exact tells_no HNO.out HQ.out
  rw [decide_eq_true c2]
  have C2 := Lib.hid c2
  clear c2
  go_wp2_with fail
  refine (mwithin64_any _ _ _ _).mono ?_
  rintro e w2 ⟨rfl, rfl⟩
  by_cases c3 : 0 ≤ bk ∧ bk ≤ 1000
  case neg =>
    rw [decide_eq_false c3]
    have HNO : Hid (¬ timesP ⟨r, wt, bk, cy, key, ds, ps, cs, es⟩) := Lib.hid (fun hp => c3 hp.2.2.1)
    clear c3
    go_wp2_with fail
    go_ret
    exact tells_no HNO.out HQ.out
  rw [decide_eq_true c3]
  have C3 := Lib.hid c3
  clear c3
  go_wp2_with fail
  refine (mwithin64_any _ _ _ _).mono ?_
  rintro e w2 ⟨rfl, rfl⟩
  by_cases c4 : 1 ≤ cy ∧ cy ≤ 1000
  case neg =>
    rw [decide_eq_false c4]
    have HNO : Hid (¬ timesP ⟨r, wt, bk, cy, key, ds, ps, cs, es⟩) := Lib.hid (fun hp => c4 hp.2.2.2)
    clear c4
    go_wp2_with fail
    go_ret
    exact tells_no HNO.out HQ.out
  rw [decide_eq_true c4]
  have C4 := Lib.hid c4
  clear c4
  go_wp2_with fail
  go_ret
  exact tells_yes ⟨C1.out, C2.out, C3.out, C4.out⟩ HQ.out
set_option maxRecDepth 100000 in
theorem keyed_any (w : World) (s : ByteArray) (hs : s.size ≤ 1125899906842624) :
    Calls Try.prog 46 #[.string s] w fun e w' => e = .returned (.bool (keyB s)) ∧ w = w' := by
  obtain ⟨r, hr⟩ : ∃ r, r = keyB s := ⟨_, rfl⟩
  rw [← hr]
  have HB := Lib.hid hr
  clear hr
  by_cases h16 : ((s.size : Int) = 16)
  case neg =>
    have HR := Lib.hid (show r = false by rw [HB.out]; unfold keyB; rw [decide_eq_false (p := s.size = 16) (by omega)]; rfl)
    have h2 : ((s.size : Int) == 16) = false := by rw [beq_eq_false_iff_ne]; exact h16
    have h3 : ((s.size : Int) != 16) = true := by rw [bne, h2]; rfl
    clear h16
    go_enter Try.func46, Try.ntmps46
    go_wp2_with fail
    go_ret
    exact ⟨by rw [HR.out]; rfl, rfl⟩
  have H16 := Lib.hid h16
  have h2 : ((s.size : Int) == 16) = true := by simp [h16]
  have h3 : ((s.size : Int) != 16) = false := by rw [bne, h2]; rfl
  clear h16
  go_enter Try.func46, Try.ntmps46
  go_wp2_with fail
  clear h2 h3
  go_loopw [10] (fun i wr => ∃ k : Nat, k ≤ s.size ∧ i = .int .i64 k ∧ Hid (Upto (fun _ c => hexB c = true) s.data.toList k) ∧ Hid (w = wr)) (fun i _ => s.size - (intOf i).toNat)
  case atStart => exact ⟨0, Nat.zero_le _, rfl, Lib.hid (upto_zero _ _), Lib.hid rfl⟩
  case round =>
    obtain ⟨k, hk, rfl, HU, HW⟩ := hrel
    by_cases hlt : k < s.size
    · obtain ⟨c, hc⟩ := string_at hlt
      have hix := fun w => index_at (P := Try.prog) (t := 9) (by go_side) hc w
      have HC := Lib.hid hc
      have hk1 : (k : Int) < (s.size : Int) := by omega
      clear hc
      obtain ⟨n, hn, hcs⟩ := hex_cases c
      rw [← hn] at hix
      clear hn
      rcases hcs with ⟨hl, h1, hcs⟩ | ⟨hl, hcs⟩
      · have HL := Lib.hid hl
        clear hl
        rcases hcs with h2 | ⟨h2, h3, h4⟩
        · have g1 : ¬ n < 48 := by simp [h1]
          have g2 : ¬ 57 < n := by simp [h2]
          clear h1 h2
          go_wp2_with fail
          go_roundw
          case rel => exact ⟨k + 1, by omega, by go_num, Lib.hid (upto_step HU.out HC.out HL.out), HW⟩
          case measure => simp [intOf]; omega
        · have g1 : ¬ n < 48 := by simp [h1]
          have g2 : 57 < n := by simp [h2]
          have g3 : ¬ n < 97 := by simp [h3]
          have g4 : ¬ 102 < n := by simp [h4]
          clear h1 h2 h3 h4
          go_wp2_with fail
          go_roundw
          case rel => exact ⟨k + 1, by omega, by go_num, Lib.hid (upto_step HU.out HC.out HL.out), HW⟩
          case measure => simp [intOf]; omega
      · have HR := Lib.hid (show r = false by rw [HB.out]; unfold keyB; rw [all_no HC.out hl, Bool.and_false])
        clear hl
        rcases hcs with ⟨h1, h2⟩ | ⟨h1, h2, hcs⟩
        · have g1 : n < 48 := by simp [h1]
          have g2 : n < 97 := by simp [h2]
          clear h1 h2
          go_wp2_with fail
          go_ret
          exact ⟨by rw [HR.out]; rfl, HW.out⟩
        · rcases hcs with h3 | ⟨h3, h4⟩
          · have g1 : ¬ n < 48 := by simp [h1]
            have g2 : 57 < n := by simp [h2]
            have g3 : n < 97 := by simp [h3]
            clear h1 h2 h3
            go_wp2_with fail
            go_ret
            exact ⟨by rw [HR.out]; rfl, HW.out⟩
          · have g1 : ¬ n < 48 := by simp [h1]
            have g2 : 57 < n := by simp [h2]
            have g3 : ¬ n < 97 := by simp [h3]
            have g4 : 102 < n := by simp [h4]
            clear h1 h2 h3 h4
            go_wp2_with fail
            go_ret
            exact ⟨by rw [HR.out]; rfl, HW.out⟩
    · have hk2 : ¬ (k : Int) < (s.size : Int) := by omega
      have hks : k = s.size := by omega
      have HA := Lib.hid (all_yes (by rw [← hks]; exact HU.out))
      clear hks
      have HR := Lib.hid (show r = true by rw [HB.out]; unfold keyB; rw [HA.out, decide_eq_true (p := s.size = 16) (by have := H16.out; omega)]; rfl)
      go_wp2_with fail
      go_ret
      exact ⟨by rw [HR.out]; rfl, HW.out⟩
set_option maxHeartbeats 4000000 in
set_option maxRecDepth 100000 in
theorem picks_any (w : World) (l : List Int) (v : Value) (h : NumsAt w l v) (hl : l.length ≤ 1125899906842624) (most size : Int) (hs0 : 0 ≤ size) (hs1 : size ≤ 1125899906842624) :
    Calls Try.prog 68 #[v, .int .i64 most, .int .i64 size] w (Tells (someP l most size) w) := by
  obtain ⟨A, c, e, hc, -⟩ := id h
  subst e
  have HL := Lib.hid h
  clear h
  go_enter Try.func68, Try.ntmps68
  go_wp2_with fail
  refine (mwithin_any _ _ _ _).mono ?_
  rintro e w2 ⟨rfl, rfl⟩
  by_cases c1 : 1 ≤ (l.length : Int) ∧ (l.length : Int) ≤ most
  case neg =>
    rw [decide_eq_false c1]
    have HNO : Hid (¬ someP l most size) := Lib.hid (fun hp => c1 ⟨hp.1, hp.2.1⟩)
    clear c1
    go_wp2_with fail
    go_ret
    exact tells_no HNO.out (Below.refl _ _)
  rw [decide_eq_true c1]
  have C1 := Lib.hid c1
  clear c1
  go_wp2_with fail
  obtain ⟨wo, hwo⟩ : ∃ wo : World, wo = w := ⟨_, rfl⟩
  have HWO := Lib.hid hwo
  clear hwo
  go_loopw [16] (fun i wr => ∃ k : Nat, k ≤ l.length ∧ i = .int .i64 k ∧ Hid (Upto (fun _ x => 0 ≤ x ∧ x < size) l k) ∧ Hid (w = wr)) (fun i _ => l.length - (intOf i).toNat)
  case atStart => exact ⟨0, Nat.zero_le _, rfl, Lib.hid (upto_zero _ _), Lib.hid rfl⟩
  case round =>
    obtain ⟨k, hk, rfl, HU, HW⟩ := hrel
    by_cases hlt : k < l.length
    · obtain ⟨x, hx⟩ : ∃ x, l[k]? = some x := ⟨_, List.getElem?_eq_getElem hlt⟩
      obtain ⟨b, off, hA, hcell⟩ := one_at (w := wr) (by rw [← HW.out]; exact HL.out) hx
      subst hA
      have y0 := hcell _ rfl
      have HX := Lib.hid hx
      have hk1 : (k : Int) < (l.length : Int) := by omega
      have hk0 : (0 : Int) ≤ (k : Int) := by omega
      clear hx hcell
      go_wp2_with fail
      refine (mwithin_any _ _ _ _).mono ?_
      rintro e w2 ⟨rfl, rfl⟩
      by_cases c2 : 0 ≤ x ∧ x ≤ size - 1
      case neg =>
        rw [decide_eq_false c2]
        have HNO : Hid (¬ someP l most size) := Lib.hid (fun hp => c2 (by have := (hp.2.2 k x HX.out).1; omega))
        clear c2
        go_wp2_with fail
        go_ret
        exact tells_no HNO.out (by rw [HW.out]; exact Below.refl _ _)
      rw [decide_eq_true c2]
      have C2 := Lib.hid c2
      clear c2
      go_wp2_with fail
      go_roundw
      case rel => exact ⟨k + 1, by omega, by go_num, Lib.hid (upto_step HU.out HX.out ⟨C2.out.1, by have := C2.out.2; omega⟩), HW⟩
      case measure => simp [intOf]; omega
    · have hkl : k = l.length := by omega
      have HA := Lib.hid (upto_all (by rw [← hkl]; exact HU.out))
      clear hkl
      have hk2 : ¬ (k : Int) < (l.length : Int) := by omega
      go_wp2_with fail
      refine (twinsI_any wr l _ (by rw [← HW.out]; exact HL.out) hl).mono ?_
      rintro e w3 ⟨b, rfl, hb, hB⟩
      have HT := Lib.hid hb
      have HB := Lib.hid (show Below w.heap.size w w3 by rw [HW.out]; exact hB)
      clear hb hB
      have HS : Hid ((!b) = true ↔ someP l most size) := Lib.hid (by
        have h1 := HT.out
        have h2 := HA.out
        have h3 := C1.out
        constructor
        · intro hb
          have hb' : ¬ b = true := by cases b <;> simp at hb ⊢
          have h4 := fun n => hb' (h1.2 n)
          exact ⟨h3.1, h3.2, fun i y hy => ⟨h2 i y hy, (Classical.not_not.1 h4) i y hy⟩⟩
        · intro hp
          cases b with
          | false => rfl
          | true => exact absurd (fun i y hy => (hp.2.2 i y hy).2) (h1.1 rfl))
      go_wp2_with fail
      go_ret
      exact ⟨_, rfl, HS.out, HB.out⟩
end Go.Proofs.Ytbpenoelmangkaa
