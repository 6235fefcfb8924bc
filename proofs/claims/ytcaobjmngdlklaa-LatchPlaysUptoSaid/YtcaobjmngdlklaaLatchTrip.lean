/-
  Trip, walked.
-/
import Derived.Test.YtcaobjmngdlklaaLatchMem
import Derived.BigQuiet
import Derived.Deep.QuietTactic
import Derived.Deep.DeepCutAuto
import Derived.StillTailTactics
import Derived.WalkSpells
import Derived.Handy
namespace Go.Proofs.Ytcaobjmngdlklaa
open Go.RowKit
set_option maxRecDepth 100000 in
theorem has_any (B g : Nat) (v : Value) (m1 m2 N : Nat) (s : LS) (w : World) (h : LAt B g v m1 m2 N s w) (i : Int) :
    Calls Try.prog 23 #[.pointer (some ⟨g, 0, none⟩), .int .i64 i] w fun e w' => e = .returned (.bool (decide (0 ≤ i ∧ i < s.l.length))) ∧ w = w' := by
  obtain ⟨A, c, e⟩ := own_form h.1.2.1
  subst e
  have c0 : w.cell? ⟨g, 0, none⟩ = some (.slice A s.l.length c) := h.1.1.cell 0
  by_cases h0 : 0 ≤ i
  · by_cases h1 : i < (s.l.length : Int)
    · rw [decide_eq_true ⟨h0, h1⟩]
      clear h
      go_enter Try.func23, Try.ntmps23
      go_wp2_with fail
      go_ret
      exact ⟨rfl, rfl⟩
    · rw [decide_eq_false (by omega)]
      clear h
      go_enter Try.func23, Try.ntmps23
      go_wp2_with fail
      go_ret
      exact ⟨rfl, rfl⟩
  · rw [decide_eq_false (by omega)]
    clear h
    go_enter Try.func23, Try.ntmps23
    go_wp2_with fail
    go_ret
    exact ⟨rfl, rfl⟩
set_option maxRecDepth 100000 in
theorem trip_out (B g : Nat) (v : Value) (m1 m2 N : Nat) (s : LS) (w : World) (h : LAt B g v m1 m2 N s w) (i now : Int) (hi : ¬ (0 ≤ i ∧ i < s.l.length)) :
    Calls Try.prog 14 #[.pointer (some ⟨g, 0, none⟩), .int .i64 i, .int .i64 now] w fun e w' => e = .returned (.bool false) ∧ w = w' := by
  have H := Lib.hid h
  have hd : decide (0 ≤ i ∧ i < (s.l.length : Int)) = false := decide_eq_false hi
  have HD := Lib.hid hd
  clear h hd hi
  go_enter Try.func14, Try.ntmps14
  go_wp2_with fail
  refine (has_any B g v m1 m2 N s w H.out i).mono ?_
  rintro e w1 ⟨rfl, rfl⟩
  rw [HD.out]
  go_wp2_with fail
  go_ret
  exact ⟨rfl, rfl⟩
set_option maxRecDepth 100000 in
theorem trip_set (B g : Nat) (v : Value) (m1 m2 N : Nat) (s : LS) (w : World) (h : LAt B g v m1 m2 N s w) (k : Nat) (now : Int) (o : One) (ho : s.l[k]? = some o) (hs : o.set = true) :
    Calls Try.prog 14 #[.pointer (some ⟨g, 0, none⟩), .int .i64 k, .int .i64 now] w fun e w' => e = .returned (.bool false) ∧ w = w' := by
  have hk : k < s.l.length := (List.getElem?_eq_some_iff.1 ho).1
  obtain ⟨b, c, e, hc⟩ := own_some h.1.2.1 hk
  subst e
  have x0 := row_cell oneC_len h.1.2.1 ho (d := 0) rfl
  rw [Nat.add_zero, hs] at x0
  have H := Lib.hid h
  have hd : decide (0 ≤ (k : Int) ∧ (k : Int) < (s.l.length : Int)) = true := decide_eq_true (by omega)
  have HD := Lib.hid hd
  have c0 : w.cell? ⟨g, 0, none⟩ = some (.slice (some ⟨b, 0, none⟩) s.l.length c) := h.1.1.cell 0
  clear h hd
  go_enter Try.func14, Try.ntmps14
  go_wp2_with fail
  refine (has_any B g _ m1 m2 N s w H.out k).mono ?_
  rintro e w1 ⟨rfl, rfl⟩
  rw [HD.out]
  go_wp2_with fail
  go_ret
  exact ⟨rfl, rfl⟩
set_option maxRecDepth 100000 in
theorem trip_zero (B g : Nat) (v : Value) (m1 m2 N : Nat) (s : LS) (w : World) (h : LAt B g v m1 m2 N s w) (k : Nat) (now : Int) (o : One) (ho : s.l[k]? = some o) (hs : o.set = false) (hg : o.grp = 0) :
    Calls Try.prog 14 #[.pointer (some ⟨g, 0, none⟩), .int .i64 k, .int .i64 now] w fun e w' => e = .returned (.bool true) ∧ LAt B g v m1 m2 N { s with l := s.l.set k { o with set := true, at_ := now } } w' ∧ Foot g v m1 m2 w w' := by
  have hk : k < s.l.length := (List.getElem?_eq_some_iff.1 ho).1
  obtain ⟨b, c, e, hc⟩ := own_some h.1.2.1 hk
  subst e
  have x0 := row_cell oneC_len h.1.2.1 ho (d := 0) rfl
  have x1 := row_cell oneC_len h.1.2.1 ho (d := 1) rfl
  have x3 := row_cell oneC_len h.1.2.1 ho (d := 3) rfl
  rw [Nat.add_zero, hs] at x0
  rw [hg] at x3
  have f0 := h.1.2.1.frozenAt (k * 4)
  have f1 := h.1.2.1.frozenAt (k * 4 + 1)
  have HT := Lib.hid (h.turn ho true now)
  have H := Lib.hid h
  have hd : decide (0 ≤ (k : Int) ∧ (k : Int) < (s.l.length : Int)) = true := decide_eq_true (by omega)
  have HD := Lib.hid hd
  have c0 : w.cell? ⟨g, 0, none⟩ = some (.slice (some ⟨b, 0, none⟩) s.l.length c) := h.1.1.cell 0
  have hne : g ≠ b := Ne.symm (h.blk_ne rfl).1
  clear h hd
  go_enter Try.func14, Try.ntmps14
  go_wp2_with fail
  refine (has_any B g _ m1 m2 N s w H.out k).mono ?_
  rintro e w1 ⟨rfl, rfl⟩
  rw [HD.out]
  go_wp2_with fail
  go_ret
  exact ⟨rfl, HT.out⟩
end Go.Proofs.Ytcaobjmngdlklaa
