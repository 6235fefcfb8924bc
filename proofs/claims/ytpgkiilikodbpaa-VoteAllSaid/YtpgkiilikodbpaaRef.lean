/-
  THE WALKS of the reference watchkeeperref13, and of the law's own head.
-/
import Derived.Test.YtpgkiilikodbpaaTrips
namespace Go.Proofs.Ytpgkiilikodbpaa
open Go.RowKit

theorem Voters_any (l : List Inn) (v : Value) (w : World) (hl : l.length ≤ 5000) (h : InnAt w l v) :
    Calls Try.prog 21 #[v] w fun e w' => e = .returned (.int .i64 (cnt Inn.votes l)) ∧ w = w' := by
  obtain ⟨A, c, rfl, hc, h⟩ := h
  have H := Lib.hid h
  clear h
  go_enter Try.func21, Try.ntmps21
  go_wp2
  go_loop [3, 4] (fun t i => ∃ k : Nat, k ≤ l.length ∧ i = .int .i64 k ∧ t = .int .i64 (cnt Inn.votes (l.take k))) (fun _ i => l.length - (intOf i).toNat)
  case atStart => exact ⟨0, Nat.zero_le _, rfl, rfl⟩
  case round =>
    obtain ⟨k, hk, rfl, rfl⟩ := hrel
    have hcl := cnt_le Inn.votes (l.take k)
    have hln : (l.take k).length ≤ k := List.length_take_le _ _
    by_cases hlt : k < l.length
    · have hx : l[k]? = some l[k] := List.getElem?_eq_getElem hlt
      have hne : l ≠ [] := by intro e; subst e; simp at hlt
      obtain ⟨b, off, rfl, hbl, hcell⟩ := H.out hne
      obtain ⟨h0, h1, h2⟩ := hcell k _ hx
      have HS := Lib.hid (cnt_take_succ Inn.votes l k _ hx)
      clear hcell hx hne
      go_wp2
      all_goals
        go_round
        case rel => exact ⟨k + 1, by omega, by go_num, ret_val (by rw [HS.out]; simp_all [Inn.votes])⟩
        case measure => simp [intOf]; omega
    · go_wp2
      go_ret
      exact ⟨ret_int (by rw [List.take_of_length_le (by omega)]), rfl⟩
theorem RYes_any (l : List Inn) (v : Value) (w : World) (hl : l.length ≤ 5000) (h : InnAt w l v) :
    Calls Try.prog 10 #[v] w fun e w' => e = .returned (.int .i64 (cnt Inn.yes l)) ∧ w = w' := by
  obtain ⟨A, c, rfl, hc, h⟩ := h
  have H := Lib.hid h
  clear h
  go_enter Try.func10, Try.ntmps10
  go_wp2
  go_loop [3, 4] (fun t i => ∃ k : Nat, k ≤ l.length ∧ i = .int .i64 k ∧ t = .int .i64 (cnt Inn.yes (l.take k))) (fun _ i => l.length - (intOf i).toNat)
  case atStart => exact ⟨0, Nat.zero_le _, rfl, rfl⟩
  case round =>
    obtain ⟨k, hk, rfl, rfl⟩ := hrel
    have hcl := cnt_le Inn.yes (l.take k)
    have hln : (l.take k).length ≤ k := List.length_take_le _ _
    by_cases hlt : k < l.length
    · have hx : l[k]? = some l[k] := List.getElem?_eq_getElem hlt
      have hne : l ≠ [] := by intro e; subst e; simp at hlt
      obtain ⟨b, off, rfl, hbl, hcell⟩ := H.out hne
      obtain ⟨h0, h1, h2⟩ := hcell k _ hx
      have HS := Lib.hid (cnt_take_succ Inn.yes l k _ hx)
      clear hcell hx hne
      go_wp2
      all_goals
        go_round
        case rel => exact ⟨k + 1, by omega, by go_num, ret_val (by rw [HS.out]; simp_all [Inn.yes])⟩
        case measure => simp [intOf]; omega
    · go_wp2
      go_ret
      exact ⟨ret_int (by rw [List.take_of_length_le (by omega)]), rfl⟩
theorem RNeed_any (n : Int) (l : List Inn) (v : Value) (w : World) (hl : l.length ≤ 5000) (h : InnAt w l v) :
    Calls Try.prog 12 #[.int .i64 n, v] w fun e w' => e = .returned (.int .i64 (needL n (cnt Inn.votes l))) ∧ w = w' := by
  have Hd := Lib.hid (need_if n (cnt Inn.votes l))
  generalize needL n (cnt Inn.votes l) = r at *
  go_enter Try.func12, Try.ntmps12
  go_wp2_with (go_at_call 21; refine (Voters_any l v _ hl h).mono ?_; rintro e w1 ⟨rfl, rfl⟩)
  all_goals go_ret
  all_goals exact ⟨ret_int (by have := Hd.out; split at this <;> split at this <;> omega), rfl⟩
theorem RTrips_any (n : Int) (l : List Inn) (v : Value) (w : World) (hl : l.length ≤ 5000) (h : InnAt w l v) :
    Calls Try.prog 14 #[.int .i64 n, v] w fun e w' => e = .returned (.bool (tripsL n l)) ∧ w = w' := by
  by_cases h0 : 0 < cnt Inn.votes l
  · go_enter Try.func14, Try.ntmps14
    go_wp2_with (first | (go_at_call 21; refine (Voters_any l v _ hl h).mono ?_; rintro e w1 ⟨rfl, rfl⟩) | (go_at_call 10; refine (RYes_any l v _ hl h).mono ?_; rintro e w1 ⟨rfl, rfl⟩) | (go_at_call 12; refine (RNeed_any n l v _ hl h).mono ?_; rintro e w1 ⟨rfl, rfl⟩))
    go_ret
    exact ⟨ret_bool (by simp [tripsL, h0]), rfl⟩
  · go_enter Try.func14, Try.ntmps14
    go_wp2_with (go_at_call 21; refine (Voters_any l v _ hl h).mono ?_; rintro e w1 ⟨rfl, rfl⟩)
    go_ret
    exact ⟨ret_bool (by simp [tripsL, h0]), rfl⟩
theorem RHealthy_any (n : Int) (l : List Inn) (v : Value) (w : World) (hl : l.length ≤ 5000) (h : InnAt w l v) :
    Calls Try.prog 16 #[.int .i64 n, v] w fun e w' => e = .returned (.bool (healthyL n l)) ∧ w = w' := by
  have hv := h
  obtain ⟨A, c, rfl, hc, -⟩ := h
  by_cases h0 : cnt Inn.votes l = l.length
  · have hq : ((cnt Inn.votes l : Int) == (l.length : Int)) = true := by simp [h0]
    have H0 := Lib.hid h0
    clear h0
    go_enter Try.func16, Try.ntmps16
    go_wp2_with (first | (go_at_call 21; refine (Voters_any l _ _ hl hv).mono ?_; rintro e w1 ⟨rfl, rfl⟩) | (go_at_call 14; refine (RTrips_any n l _ _ hl hv).mono ?_; rintro e w1 ⟨rfl, rfl⟩))
    go_ret
    exact ⟨ret_bool (by simp [healthyL, H0.out]), rfl⟩
  · have hq : ((cnt Inn.votes l : Int) == (l.length : Int)) = false := by simp; omega
    have H0 := Lib.hid h0
    clear h0
    go_enter Try.func16, Try.ntmps16
    go_wp2_with (go_at_call 21; refine (Voters_any l _ _ hl hv).mono ?_; rintro e w1 ⟨rfl, rfl⟩)
    go_ret
    exact ⟨ret_bool (by simp [healthyL, H0.out]), rfl⟩
end Go.Proofs.Ytpgkiilikodbpaa
