import Derived.Test.YtfogihnjeaeifaaQueueNewB
import Derived.LoopTactic
import Derived.Laws.Runes
namespace Go.Proofs.Ytfogihnjeaeifaa
open Go.Conc Go.RowKit
set_option maxRecDepth 100000 in
theorem drain_c (B q cap : Nat) (U O : List Value) (w : World) (h : QAt B 48 w q cap U O) (hs : U.length + O.length ≤ 1000) :
    Calls Try.prog 13 #[.pointer (some ⟨q, 0, none⟩)] w fun e w' => e = .returned (.int .i64 ((U.length + O.length : Nat) : Int)) ∧ QAt B 48 w' q cap [] [] ∧ Below B w w' ∧ Cells w w' := by
  go_enter Try.func13, Try.ntmps13
  go_wp2_with fail
  go_loopw [3] (fun n wr => ∃ (k : Nat) (U' O' : List Value), n = .int .i64 k ∧ k + U'.length + O'.length = U.length + O.length ∧ QAt B 48 wr q cap U' O' ∧ (Below B w wr ∧ Cells w wr)) (fun n _ => U.length + O.length - (intOf n).toNat)
  case atStart => exact ⟨0, U, O, rfl, by omega, h, Below.refl _ _, Cells.refl _⟩
  case round =>
    obtain ⟨k, U', O', rfl, hk, hq, hb, hc⟩ := hrel
    rcases U' with _ | ⟨x, U'⟩
    · rcases O' with _ | ⟨x, O'⟩
      · go_wp2_with fail
        refine (take_n_c B q cap _ hq).mono ?_
        rintro e w1 ⟨rfl, hq1, hb1, hc1⟩
        go_wp2_with fail
        go_ret
        simp only [List.length_nil, Nat.add_zero] at hk
        exact ⟨by subst hk; rfl, hq1, hb.trans (hb1.mono (Nat.le_refl _)), hc.trans hc1⟩
      · go_wp2_with fail
        refine (take_o_c B q cap O' x _ hq).mono ?_
        rintro e w1 ⟨rfl, hq1, hb1, hc1⟩
        simp only [List.length_cons, List.length_nil] at hk
        have hw : IntKind.i64.wrap ((k : Int) + 1) = (k : Int) + 1 := wrap_small _ (by omega) (by omega)
        go_wp2_with fail
        go_roundw
        case rel => exact ⟨k + 1, [], O', by go_num, by simp only [List.length_nil]; omega, hq1, hb.trans (hb1.mono (Nat.le_refl _)), hc.trans hc1⟩
        case measure => simp [intOf]; omega
    · go_wp2_with fail
      refine (take_u_c B q cap U' O' x _ hq).mono ?_
      rintro e w1 ⟨rfl, hq1, hb1, hc1⟩
      simp only [List.length_cons] at hk
      have hw : IntKind.i64.wrap ((k : Int) + 1) = (k : Int) + 1 := wrap_small _ (by omega) (by omega)
      go_wp2_with fail
      go_roundw
      case rel => exact ⟨k + 1, U', O', by go_num, by omega, hq1, hb.trans (hb1.mono (Nat.le_refl _)), hc.trans hc1⟩
      case measure => simp [intOf]; omega
theorem drain (B q cap : Nat) (U O : List Value) (w : World) (h : QAt B 48 w q cap U O) (hs : U.length + O.length ≤ 1000) :
    Calls Try.prog 13 #[.pointer (some ⟨q, 0, none⟩)] w fun e w' => e = .returned (.int .i64 ((U.length + O.length : Nat) : Int)) ∧ QAt B 48 w' q cap [] [] ∧ Below B w w' :=
  (drain_c B q cap U O w h hs).mono fun _ _ h => ⟨h.1, h.2.1, h.2.2.1⟩
end Go.Proofs.Ytfogihnjeaeifaa
