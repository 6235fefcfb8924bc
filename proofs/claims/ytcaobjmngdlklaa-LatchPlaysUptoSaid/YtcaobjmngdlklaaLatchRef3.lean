/-
  Same, and the document's New.
-/
import Derived.Test.YtcaobjmngdlklaaLatchRef2
namespace Go.Proofs.Ytcaobjmngdlklaa
open Go.RowKit
set_option maxHeartbeats 1000000 in
set_option maxRecDepth 100000 in
theorem Same_any (l : List Lat) (v1 v2 : Value) (w : World) (h1 : LatsAt w l v1) (h2 : LatsAt w l v2) (hl : l.length ≤ 1000000) :
    Calls Try.prog 18 #[v1, v2] w fun e w' => e = .returned (.bool true) ∧ Below w.heap.size w w' := by
  have hv1 := h1
  have hv2 := h2
  obtain ⟨A1, c1, rfl, hc1, -⟩ := hv1
  obtain ⟨A2, c2, rfl, hc2, -⟩ := hv2
  have H1 := Lib.hid h1
  have H2 := Lib.hid h2
  clear h1 h2
  go_enter Try.func18, Try.ntmps18
  go_wp2_with fail
  go_loopw [5] (fun i wr => ∃ k : Nat, k ≤ l.length ∧ i = .int .i64 k ∧ Below w.heap.size w wr) (fun i _ => l.length - (intOf i).toNat)
  case atStart => exact ⟨0, Nat.zero_le _, rfl, Below.refl _ _⟩
  case round =>
    obtain ⟨k, hk, rfl, hb⟩ := hrel
    have HB := Lib.hid hb
    clear hb
    by_cases hlt : k < l.length
    · obtain ⟨x, hx⟩ : ∃ x, l[k]? = some x := ⟨_, List.getElem?_eq_getElem hlt⟩
      obtain ⟨b1, o1, c1', hv1, hl1, hcell1⟩ := (LawFrame.RowsAt.below H1.out HB.out).at_ hx
      obtain ⟨b2, o2, c2', hv2, hl2, hcell2⟩ := (LawFrame.RowsAt.below H2.out HB.out).at_ hx
      have x0 := hcell1 0 _ rfl
      have x1 := hcell1 1 _ rfl
      have x2 := hcell1 2 _ rfl
      have y0 := hcell2 0 _ rfl
      have y1 := hcell2 1 _ rfl
      have y2 := hcell2 2 _ rfl
      simp only [Nat.add_zero] at x0 y0
      injection hv1 with hA1 e1 e2
      injection hv2 with hA2 e3 e4
      subst hA1 hA2
      clear e1 e2 e3 e4 hcell1 hcell2 hx
      have hk1 : (k : Int) < (l.length : Int) := by omega
      have hk0 : (0 : Int) ≤ (k : Int) := by omega
      go_upto_region 6 with fail
      go_quiet (fail)
      have HB2 := Lib.hid (below_drewn HB.out nq)
      clear x0 x1 x2 y0 y1 y2 HB
      generalize wr.drewN nq = wa at *
      go_wp2_with fail
      go_roundw
      case rel => exact ⟨k + 1, by omega, by go_num, HB2.out⟩
      case measure => simp [intOf]; omega
    · go_wp2_with fail
      go_ret
      exact ⟨rfl, HB.out⟩
end Go.Proofs.Ytcaobjmngdlklaa
