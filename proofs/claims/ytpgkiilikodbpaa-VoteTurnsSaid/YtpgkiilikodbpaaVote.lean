/-
  THE WALKS of package vote.
-/
import Derived.Test.YtpgkiilikodbpaaRows
import Derived.Test.YtpgkiilikodbpaaPlain
import Derived.Handy
import Derived.WalkLawsBesides
import Derived.WalkSpells
import Derived.Lib.Hide
namespace Go.Proofs.Ytpgkiilikodbpaa
open Go.RowKit

theorem ret_int {k : IntKind} {a b : Int} (h : a = b) : Ending.returned (.int k a) = .returned (.int k b) := by rw [h]
theorem ret_val {k : IntKind} {a b : Int} (h : a = b) : Value.int k a = Value.int k b := by rw [h]
theorem need_if (n : Int) (v : Nat) : needL n v = if (v : Int) < (if n < 1 then 1 else n) then (v : Int) else (if n < 1 then 1 else n) := by
  unfold needL; split <;> split <;> omega
theorem votes_any (x : Inn) (w : World) : Calls Try.prog 20 #[x.val] w fun e w' => e = .returned (.bool x.votes) ∧ Below w.heap.size w w' := by
  unfold Inn.val Inn.votes
  go_enter Try.func20, Try.ntmps20
  go_wp2
  go_ret
  exact ⟨rfl, by go_grown⟩
theorem yes_any (x : Inn) (w : World) : Calls Try.prog 18 #[x.val] w fun e w' => e = .returned (.bool x.yes) ∧ Below w.heap.size w w' := by
  unfold Inn.val Inn.yes
  go_enter Try.func18, Try.ntmps18
  go_wp2
  all_goals go_ret
  all_goals exact ⟨by simp_all, by go_grown⟩
theorem need_any (n : Int) (v : Nat) (w : World) : Calls Try.prog 19 #[.int .i64 n, .int .i64 v] w fun e w' => e = .returned (.int .i64 (needL n v)) ∧ w = w' := by
  have hd := need_if n v
  have Hd := Lib.hid hd
  clear hd
  generalize needL n v = r at *
  go_enter Try.func19, Try.ntmps19
  go_wp2
  all_goals go_ret
  all_goals exact ⟨ret_int (by have := Hd.out; split at this <;> split at this <;> omega), rfl⟩
/-- 'many' of a row, of those that votes. -/
theorem many_votes (l : List Inn) (v : Value) (w : World) (hl : l.length ≤ 5000) (h : InnAt w l v) :
    Calls Try.prog 17 #[v, .func (.func 20) #[] #[]] w fun e w' => e = .returned (.int .i64 (cnt Inn.votes l)) ∧ Below w.heap.size w w' := by
  obtain ⟨A, c, rfl, hc, h⟩ := h
  have H := Lib.hid h
  clear h
  go_enter Try.func17, Try.ntmps17
  go_wp2
  go_loopw [5, 10] (fun t i wr => ∃ k : Nat, k ≤ l.length ∧ i = .int .i64 k ∧ t = .int .i64 (cnt Inn.votes (l.take k)) ∧ Below w.heap.size w wr) (fun _ i _ => l.length - (intOf i).toNat)
  case atStart => exact ⟨0, Nat.zero_le _, rfl, rfl, Below.refl _ _⟩
  case round =>
    obtain ⟨k, hk, rfl, rfl, hb⟩ := hrel
    have hcl := cnt_le Inn.votes (l.take k)
    have hln : (l.take k).length ≤ k := List.length_take_le _ _
    by_cases hlt : k < l.length
    · have hx : l[k]? = some l[k] := List.getElem?_eq_getElem hlt
      have hne : l ≠ [] := by intro e; subst e; simp at hlt
      obtain ⟨b, off, rfl, hbl, hcell⟩ := H.out hne
      obtain ⟨h0, h1, h2⟩ := hcell k _ hx
      have g0 := (hb.cell (p := ⟨b, off + k * 3, none⟩) hbl).trans h0
      have g1 := (hb.cell (p := ⟨b, off + k * 3 + 1, none⟩) hbl).trans h1
      have g2 := (hb.cell (p := ⟨b, off + k * 3 + 2, none⟩) hbl).trans h2
      have HS := Lib.hid (cnt_take_succ Inn.votes l k _ hx)
      have hbs := hb.size
      clear h0 h1 h2 hcell hx hne
      go_wp2_with (go_at_call 20; refine (votes_any l[k] _).mono ?_; rintro e w1 ⟨rfl, hb1⟩)
      all_goals
        go_roundw
        case rel => exact ⟨k + 1, by omega, by go_num, ret_val (by rw [HS.out]; simp_all), Below.trans (by go_grown) (hb1.mono (by go_size))⟩
        case measure => simp [intOf]; omega
    · go_wp2
      go_ret
      exact ⟨ret_int (by rw [List.take_of_length_le (by omega)]), hb⟩
/-- 'many' of a row, of those that yes. -/
theorem many_yes (l : List Inn) (v : Value) (w : World) (hl : l.length ≤ 5000) (h : InnAt w l v) :
    Calls Try.prog 17 #[v, .func (.func 18) #[] #[]] w fun e w' => e = .returned (.int .i64 (cnt Inn.yes l)) ∧ Below w.heap.size w w' := by
  obtain ⟨A, c, rfl, hc, h⟩ := h
  have H := Lib.hid h
  clear h
  go_enter Try.func17, Try.ntmps17
  go_wp2
  go_loopw [5, 10] (fun t i wr => ∃ k : Nat, k ≤ l.length ∧ i = .int .i64 k ∧ t = .int .i64 (cnt Inn.yes (l.take k)) ∧ Below w.heap.size w wr) (fun _ i _ => l.length - (intOf i).toNat)
  case atStart => exact ⟨0, Nat.zero_le _, rfl, rfl, Below.refl _ _⟩
  case round =>
    obtain ⟨k, hk, rfl, rfl, hb⟩ := hrel
    have hcl := cnt_le Inn.yes (l.take k)
    have hln : (l.take k).length ≤ k := List.length_take_le _ _
    by_cases hlt : k < l.length
    · have hx : l[k]? = some l[k] := List.getElem?_eq_getElem hlt
      have hne : l ≠ [] := by intro e; subst e; simp at hlt
      obtain ⟨b, off, rfl, hbl, hcell⟩ := H.out hne
      obtain ⟨h0, h1, h2⟩ := hcell k _ hx
      have g0 := (hb.cell (p := ⟨b, off + k * 3, none⟩) hbl).trans h0
      have g1 := (hb.cell (p := ⟨b, off + k * 3 + 1, none⟩) hbl).trans h1
      have g2 := (hb.cell (p := ⟨b, off + k * 3 + 2, none⟩) hbl).trans h2
      have HS := Lib.hid (cnt_take_succ Inn.yes l k _ hx)
      have hbs := hb.size
      clear h0 h1 h2 hcell hx hne
      go_wp2_with (go_at_call 18; refine (yes_any l[k] _).mono ?_; rintro e w1 ⟨rfl, hb1⟩)
      all_goals
        go_roundw
        case rel => exact ⟨k + 1, by omega, by go_num, ret_val (by rw [HS.out]; simp_all), Below.trans (by go_grown) (hb1.mono (by go_size))⟩
        case measure => simp [intOf]; omega
    · go_wp2
      go_ret
      exact ⟨ret_int (by rw [List.take_of_length_le (by omega)]), hb⟩

/-- Yes: how many vote yes. -/
theorem Yes_any (l : List Inn) (v : Value) (w : World) (hl : l.length ≤ 5000) (h : InnAt w l v) :
    Calls Try.prog 9 #[v] w fun e w' => e = .returned (.int .i64 (cnt Inn.yes l)) ∧ Below w.heap.size w w' := by
  go_enter Try.func9, Try.ntmps9
  go_wp2_with (go_at_call 17; refine (many_yes l v _ hl h).mono ?_; rintro e w1 ⟨rfl, hb1⟩)
  go_ret
  exact ⟨rfl, hb1⟩
theorem Need_any (n : Int) (l : List Inn) (v : Value) (w : World) (hl : l.length ≤ 5000) (h : InnAt w l v) :
    Calls Try.prog 11 #[.int .i64 n, v] w fun e w' => e = .returned (.int .i64 (needL n (cnt Inn.votes l))) ∧ Below w.heap.size w w' := by
  go_enter Try.func11, Try.ntmps11
  go_wp2_with (first | (go_at_call 17; refine (many_votes l v _ hl h).mono ?_; rintro e w1 ⟨rfl, hb1⟩) | (go_at_call 19; refine (need_any _ _ _).mono ?_; rintro e w2 ⟨rfl, rfl⟩))
  go_ret
  exact ⟨rfl, hb1⟩
end Go.Proofs.Ytpgkiilikodbpaa
