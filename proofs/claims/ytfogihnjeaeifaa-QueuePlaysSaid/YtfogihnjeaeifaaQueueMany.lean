import Derived.Test.YtfogihnjeaeifaaQueueTake
import Derived.BigQuiet
import Derived.Deep.QuietTactic
import Derived.Deep.DrawnRows
namespace Go.Proofs.Ytfogihnjeaeifaa
open Go.Conc Go.RowKit
theorem QAt.same {B t q cap : Nat} {U O : List Value} {w w' : World} (h : QAt B t w q cap U O) (hh : w'.heap = w.heap) : QAt B t w' q cap U O := by
  unfold QAt ChAt at *
  rw [hh]
  exact h
set_option maxRecDepth 100000 in
theorem many_c (B q cap : Nat) (U O : List Value) (w : World) (h : QAt B 48 w q cap U O) :
    Calls Try.prog 17 #[.pointer (some ⟨q, 0, none⟩)] w fun e w' => e = .returned (.tuple #[.int .i64 U.length, .int .i64 O.length]) ∧ QAt B 48 w' q cap U O ∧ Below B w w' ∧ Cells w w' := by
  have h0 := h
  obtain ⟨a, b, hq, ha, hb, hab, hqa, hqb, hx, ⟨s1, r1, hA⟩, ⟨s2, r2, hO⟩⟩ := h
  have c0 : w.cell? ⟨q, 0, none⟩ = some (.chan (some a)) := by simp [World.cell?, hx]
  have c1 : w.cell? ⟨q, 1, none⟩ = some (.chan (some b)) := by simp [World.cell?, hx]
  have l0 : ∀ n, (Builtin.len_ #[46] 3 #[.chan (some a)]).run Try.prog (w.drewN n) = .ok (goInt (U.toArray.size : Nat)) (w.drewN n) := fun n => run_len_chan (P := Try.prog) 46 3 Try.underlying46 (w := w.drewN n) (by simpa using hA)
  have l1 : ∀ n, (Builtin.len_ #[46] 3 #[.chan (some b)]).run Try.prog (w.drewN n) = .ok (goInt (O.toArray.size : Nat)) (w.drewN n) := fun n => run_len_chan (P := Try.prog) 46 3 Try.underlying46 (w := w.drewN n) (by simpa using hO)
  go_enter Try.func17, Try.ntmps17
  go_wp2_with fail
  go_quiet (fail)
  all_goals
   go_wp2_with fail
   go_ret2
   exact ⟨rfl, h0.same rfl, ⟨rfl, rfl, rfl, Nat.le_refl _, fun _ _ => rfl⟩, fun _ _ _ _ _ => rfl⟩
theorem many (B q cap : Nat) (U O : List Value) (w : World) (h : QAt B 48 w q cap U O) :
    Calls Try.prog 17 #[.pointer (some ⟨q, 0, none⟩)] w fun e w' => e = .returned (.tuple #[.int .i64 U.length, .int .i64 O.length]) ∧ QAt B 48 w' q cap U O ∧ Below B w w' :=
  (many_c B q cap U O w h).mono fun _ _ h => ⟨h.1, h.2.1, h.2.2.1⟩
set_option maxRecDepth 100000 in
theorem bmany_c (B q cap : Nat) (U O : List Value) (w : World) (h : QAt B 53 w q cap U O) :
    Calls Try.prog 21 #[.pointer (some ⟨q, 0, none⟩)] w fun e w' => e = .returned (.tuple #[.int .i64 U.length, .int .i64 O.length]) ∧ QAt B 53 w' q cap U O ∧ Below B w w' ∧ Cells w w' := by
  have h0 := h
  obtain ⟨a, b, hq, ha, hb, hab, hqa, hqb, hx, ⟨s1, r1, hA⟩, ⟨s2, r2, hO⟩⟩ := h
  have c0 : w.cell? ⟨q, 0, none⟩ = some (.chan (some a)) := by simp [World.cell?, hx]
  have c1 : w.cell? ⟨q, 1, none⟩ = some (.chan (some b)) := by simp [World.cell?, hx]
  have l0 : ∀ n, (Builtin.len_ #[51] 3 #[.chan (some a)]).run Try.prog (w.drewN n) = .ok (goInt (U.toArray.size : Nat)) (w.drewN n) := fun n => run_len_chan (P := Try.prog) 51 3 Try.underlying51 (w := w.drewN n) (by simpa using hA)
  have l1 : ∀ n, (Builtin.len_ #[51] 3 #[.chan (some b)]).run Try.prog (w.drewN n) = .ok (goInt (O.toArray.size : Nat)) (w.drewN n) := fun n => run_len_chan (P := Try.prog) 51 3 Try.underlying51 (w := w.drewN n) (by simpa using hO)
  go_enter Try.func21, Try.ntmps21
  go_wp2_with fail
  go_quiet (fail)
  all_goals
   go_wp2_with fail
   go_ret2
   exact ⟨rfl, h0.same rfl, ⟨rfl, rfl, rfl, Nat.le_refl _, fun _ _ => rfl⟩, fun _ _ _ _ _ => rfl⟩
theorem bmany (B q cap : Nat) (U O : List Value) (w : World) (h : QAt B 53 w q cap U O) :
    Calls Try.prog 21 #[.pointer (some ⟨q, 0, none⟩)] w fun e w' => e = .returned (.tuple #[.int .i64 U.length, .int .i64 O.length]) ∧ QAt B 53 w' q cap U O ∧ Below B w w' :=
  (bmany_c B q cap U O w h).mono fun _ _ h => ⟨h.1, h.2.1, h.2.2.1⟩
end Go.Proofs.Ytfogihnjeaeifaa
