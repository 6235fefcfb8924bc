/-
  THE WALKS of package vote: Trips, Healthy.
-/
import Derived.Test.YtpgkiilikodbpaaVote
namespace Go.Proofs.Ytpgkiilikodbpaa
open Go.RowKit

theorem ret_bool {a b : Bool} (h : a = b) : Ending.returned (.bool a) = .returned (.bool b) := by rw [h]
theorem Trips_any (n : Int) (l : List Inn) (v : Value) (w : World) (hl : l.length ≤ 5000) (h : InnAt w l v) :
    Calls Try.prog 13 #[.int .i64 n, v] w fun e w' => e = .returned (.bool (tripsL n l)) ∧ Below w.heap.size w w' := by
  by_cases h0 : 0 < cnt Inn.votes l
  · go_enter Try.func13, Try.ntmps13
    go_wp2_with fail
    refine (many_votes l v _ hl h).mono ?_
    rintro e w1 ⟨rfl, hb1⟩
    have hs1 := hb1.size
    go_wp2_with fail
    refine (many_yes l v _ hl (h.below hb1)).mono ?_
    rintro e w2 ⟨rfl, hb2⟩
    go_wp2_with fail
    refine (need_any _ _ _).mono ?_
    rintro e w3 ⟨rfl, rfl⟩
    go_wp2_with fail
    go_ret
    exact ⟨ret_bool (by simp [tripsL, h0]), hb1.trans (hb2.mono hs1)⟩
  · go_enter Try.func13, Try.ntmps13
    go_wp2_with fail
    refine (many_votes l v _ hl h).mono ?_
    rintro e w1 ⟨rfl, hb1⟩
    go_wp2_with fail
    go_ret
    exact ⟨ret_bool (by simp [tripsL, h0]), hb1⟩
theorem Healthy_any (n : Int) (l : List Inn) (v : Value) (w : World) (hl : l.length ≤ 5000) (h : InnAt w l v) :
    Calls Try.prog 15 #[.int .i64 n, v] w fun e w' => e = .returned (.bool (healthyL n l)) ∧ Below w.heap.size w w' := by
  by_cases h0 : cnt Inn.votes l = l.length
  · have hq : ((cnt Inn.votes l : Int) == (l.length : Int)) = true := by simp [h0]
    have H0 := Lib.hid h0
    clear h0
    have hv := h
    obtain ⟨A, c, rfl, hc, -⟩ := h
    go_enter Try.func15, Try.ntmps15
    go_wp2_with fail
    refine (many_votes l _ _ hl hv).mono ?_
    rintro e w1 ⟨rfl, hb1⟩
    have hs1 := hb1.size
    go_wp2_with fail
    refine (Trips_any _ l _ _ hl (hv.below hb1)).mono ?_
    rintro e w2 ⟨rfl, hb2⟩
    go_wp2_with fail
    go_ret
    exact ⟨ret_bool (by simp [healthyL, H0.out]), hb1.trans (hb2.mono hs1)⟩
  · have hq : ((cnt Inn.votes l : Int) == (l.length : Int)) = false := by simp; omega
    have H0 := Lib.hid h0
    clear h0
    have hv := h
    obtain ⟨A, c, rfl, hc, -⟩ := h
    go_enter Try.func15, Try.ntmps15
    go_wp2_with fail
    refine (many_votes l _ _ hl hv).mono ?_
    rintro e w1 ⟨rfl, hb1⟩
    go_wp2_with fail
    go_ret
    exact ⟨ret_bool (by simp [healthyL, H0.out]), hb1⟩
end Go.Proofs.Ytpgkiilikodbpaa
