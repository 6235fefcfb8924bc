/-
  VoteTells: of any votes of any, how many vote yes, and are needed, whether they trip, and whether they are healthy, are the document's. No condition.
-/
import Derived.Test.YtpgkiilikodbpaaHead
import Derived.Test.YtpgkiilikodbpaaOpen
namespace Go.Proofs.Ytpgkiilikodbpaa
open Go.RowKit Go.ChangeShapes Go.WideShapes

theorem tells_small (n : Int) (l : List Inn) (v : Value) (w : World) (hl : l.length ≤ 5000) (h : InnAt w l v) :
    Calls Try.prog 3 #[.int .i64 n, v] w fun e w' => e = .returned (.bool true) ∧ Below w.heap.size w w' := by
  have hv := h
  obtain ⟨A, c, rfl, hc, -⟩ := h
  have HV := Lib.hid hv
  clear hv
  go_enter Try.func3, Try.ntmps3
  go_wp2_with fail
  refine (head_any _).mono ?_
  rintro e w1 ⟨rfl, hb1⟩
  go_wp2_with fail
  have H1 := Lib.hid (HV.out.below hb1)
  refine (Yes_any l _ _ hl H1.out).mono ?_
  rintro e w2 ⟨rfl, hb2⟩
  have H2 := Lib.hid (H1.out.below hb2)
  have B2 : Below w.heap.size w w2 := hb1.trans (hb2.mono hb1.size)
  go_wp2_with fail
  refine (RYes_any l _ _ hl H2.out).mono ?_
  rintro e w3 ⟨rfl, rfl⟩
  go_wp2_with fail
  refine (Need_any n l _ _ hl H2.out).mono ?_
  rintro e w4 ⟨rfl, hb4⟩
  have H4 := Lib.hid (H2.out.below hb4)
  have B4 : Below w.heap.size w w4 := B2.trans (hb4.mono B2.size)
  go_wp2_with fail
  refine (RNeed_any n l _ _ hl H4.out).mono ?_
  rintro e w5 ⟨rfl, rfl⟩
  go_wp2_with fail
  refine (Trips_any n l _ _ hl H4.out).mono ?_
  rintro e w6 ⟨rfl, hb6⟩
  have H6 := Lib.hid (H4.out.below hb6)
  have B6 : Below w.heap.size w w6 := B4.trans (hb6.mono B4.size)
  go_wp2_with fail
  refine (RTrips_any n l _ _ hl H6.out).mono ?_
  rintro e w7 ⟨rfl, rfl⟩
  go_wp2_with fail
  refine (Healthy_any n l _ _ hl H6.out).mono ?_
  rintro e w8 ⟨rfl, hb8⟩
  have H8 := Lib.hid (H6.out.below hb8)
  have B8 : Below w.heap.size w w8 := B6.trans (hb8.mono B6.size)
  go_wp2_with fail
  refine (RHealthy_any n l _ _ hl H8.out).mono ?_
  rintro e w9 ⟨rfl, rfl⟩
  go_wp2_with fail
  go_ret
  exact ⟨rfl, B8⟩
theorem tells_big (n : Int) (A : Option Addr) (k c : Nat) (w : World) (hl : 5000 < k) :
    Calls Try.prog 3 #[.int .i64 n, .slice A k c] w fun e w' => e = .returned (.bool true) ∧ Below w.heap.size w w' := by
  go_enter Try.func3, Try.ntmps3
  go_wp2_with fail
  refine (head_any _).mono ?_
  rintro e w1 ⟨rfl, hb1⟩
  go_wp2_with fail
  go_ret
  exact ⟨rfl, hb1⟩
theorem tells_walk (n : Int) (l : List Inn) (v : Value) (w : World) (h : InnAt w l v) :
    Calls Try.prog 3 #[.int .i64 n, v] w fun e w' => e = .returned (.bool true) ∧ Below w.heap.size w w' := by
  rcases Nat.lt_or_ge 5000 l.length with hl | hl
  · obtain ⟨A, c, rfl, hc, -⟩ := h
    exact tells_big n A _ c w hl
  · exact tells_small n l v w hl h

set_option maxRecDepth 100000 in
theorem tells_lifted (os : Os) (started : os.Started) (H : Type) (enc : TypeId × Value → H) :
    ReturnsInHanded {} Try.checked os 3 .any (Rows.voteTellsSpec.pre6 enc Try.prog Try.f3 Rows.voteTellsRow.domain false) (Rows.voteTellsSpec.post enc Try.prog Try.f3 false true false false) := by
  refine LawFrame.handed (C := Try.checked) (tb := 4) (by kernel_rfl) (by kernel_rfl) (by kernel_rfl) Try.underlying4 rfl (fun ds hd => ?_) own started (by kernel_rfl) Try.func3
    (ChangeSpec.witness6 (enc := enc) (C := Try.checked) false ⟨#[], #[.int .i64 0, .slice none 0 0], []⟩ 8 (by kernel_rfl) (by kernel_rfl) (by kernel_rfl) (by kernel_rfl)) ?_
  · rw [Try.params3] at hd
    match ds, hd with
    | [d1, d2], _ => rfl
  · intro W args ds before base hval hA hlt hsz
    rw [Try.params3] at hval hA
    obtain ⟨v0, v1, d0, d1, p0, p1, rfl, rfl, rfl, h0, h1⟩ := trodAll_two hA
    obtain ⟨x, rfl, rfl, rfl, wx⟩ := open_int Try.underlying3 (hval 0 3 v0 rfl rfl) h0
    obtain ⟨l, hl, _⟩ := open_inn (hval 1 22 v1 rfl rfl) h1
    exact tells_walk x l v1 W hl
theorem tells_holds : Rows.VoteTellsSaid :=
  OpenClaim.holds_of_wide 3 Try.f3 rfl rfl rfl rfl rfl rfl rfl ⟨rfl, rfl, rfl, rfl, rfl⟩ rfl rfl rfl rfl rfl (by kernel_rfl) Try.func3 (by kernel_rfl)
    (of_decide_eq_true (by kernel_rfl)) (by unfold Func.isWrapper; first | (rw [if_pos (by decide +kernel)]; kernel_rfl) | (rw [if_neg (by decide +kernel)]; exact ⟨rfl, rfl⟩))
    (fun os started H enc _ => tells_lifted os started H enc)
#print axioms tells_holds
end Go.Proofs.Ytpgkiilikodbpaa
