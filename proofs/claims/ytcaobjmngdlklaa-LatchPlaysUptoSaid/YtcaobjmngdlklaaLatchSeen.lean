/-
  At and First, walked.
-/
import Derived.Test.YtcaobjmngdlklaaLatchReset
namespace Go.Proofs.Ytcaobjmngdlklaa
open Go.RowKit
theorem below_drewn {B : Nat} {w w' : World} (h : Below B w w') (n : Nat) : Below B w (w'.drewN n) := ⟨h.os, h.tape, h.output, h.size, h.block⟩
def latV (x : Lat) : Value := .agg #[.bool x.set, .int .i64 x.at_, .bool x.first]
def atL (s : LS) (i : Int) : Lat := match (if 0 ≤ i then s.l[i.toNat]? else none) with
  | some o => seen s.first i.toNat o
  | none => ⟨false, 0, false⟩
set_option maxRecDepth 100000 in
theorem At_out (B g : Nat) (v : Value) (m1 m2 N : Nat) (s : LS) (w : World) (h : LAt B g v m1 m2 N s w) (i : Int) (hi : ¬ (0 ≤ i ∧ i < s.l.length)) :
    Calls Try.prog 16 #[.pointer (some ⟨g, 0, none⟩), .int .i64 i] w fun e w' => e = .returned (.agg #[.bool false, .int .i64 0, .bool false]) ∧ Below w.heap.size w w' := by
  have H := Lib.hid (h.below (w' := w.alloc (.cells #[.bool false, .int .i64 0, .bool false] 37)) ((Below.refl _ _).alloc (Nat.le_refl _) _))
  have hd : decide (0 ≤ i ∧ i < (s.l.length : Int)) = false := decide_eq_false hi
  have HD := Lib.hid hd
  clear h hd hi
  go_enter Try.func16, Try.ntmps16
  go_wp2_with fail
  refine (has_any B g v m1 m2 N s _ H.out i).mono ?_
  rintro e w1 ⟨rfl, rfl⟩
  rw [HD.out]
  go_wp2_with fail
  exact bodyPost_ret (v := .agg #[.bool false, .int .i64 0, .bool false]) (by simp [results, Try.results16, go_sem]) rfl ⟨rfl, (Below.refl _ _).alloc (Nat.le_refl _) _⟩
set_option maxRecDepth 100000 in
theorem At_clear (B g : Nat) (v : Value) (m1 m2 N : Nat) (s : LS) (w : World) (h : LAt B g v m1 m2 N s w) (k : Nat) (o : One) (ho : s.l[k]? = some o) (hs : o.set = false) :
    Calls Try.prog 16 #[.pointer (some ⟨g, 0, none⟩), .int .i64 k] w fun e w' => e = .returned (.agg #[.bool false, .int .i64 0, .bool false]) ∧ Below w.heap.size w w' := by
  have hk : k < s.l.length := (List.getElem?_eq_some_iff.1 ho).1
  obtain ⟨b, c, e, hc⟩ := own_some h.1.2.1 hk
  subst e
  have H := Lib.hid (h.below (w' := w.alloc (.cells #[.bool false, .int .i64 0, .bool false] 37)) ((Below.refl _ _).alloc (Nat.le_refl _) _))
  obtain ⟨c0, c1, c2, x0, x1, x3⟩ := h.facts ho
  rw [hs] at x0
  have hgl := Words.Blk.lt h.1.1
  have hbl := (h.1.2.1.lt b rfl).2
  have hd : decide (0 ≤ (k : Int) ∧ (k : Int) < (s.l.length : Int)) = true := decide_eq_true (by omega)
  have HD := Lib.hid hd
  clear h hd
  go_enter Try.func16, Try.ntmps16
  go_wp2_with fail
  refine (has_any B g _ m1 m2 N s _ H.out k).mono ?_
  rintro e w1 ⟨rfl, rfl⟩
  rw [HD.out]
  go_wp2_with fail
  exact bodyPost_ret (v := .agg #[.bool false, .int .i64 0, .bool false]) (by simp [results, Try.results16, go_sem]) rfl ⟨rfl, (Below.refl _ _).alloc (Nat.le_refl _) _⟩
set_option maxRecDepth 100000 in
theorem At_set (B g : Nat) (v : Value) (m1 m2 N : Nat) (s : LS) (w : World) (h : LAt B g v m1 m2 N s w) (k : Nat) (o : One) (ho : s.l[k]? = some o) (hs : o.set = true) :
    Calls Try.prog 16 #[.pointer (some ⟨g, 0, none⟩), .int .i64 k] w fun e w' => e = .returned (.agg #[.bool true, .int .i64 o.at_, .bool (decide (s.first o.grp = some (k : Int)))]) ∧ Below w.heap.size w w' := by
  have hk : k < s.l.length := (List.getElem?_eq_some_iff.1 ho).1
  obtain ⟨b, c, e, hc⟩ := own_some h.1.2.1 hk
  subst e
  have H := Lib.hid (h.below (w' := w.alloc (.cells #[.bool false, .int .i64 0, .bool false] 37)) ((Below.refl _ _).alloc (Nat.le_refl _) _))
  obtain ⟨c0, c1, c2, x0, x1, x3⟩ := h.facts ho
  have x2 := row_cell oneC_len h.1.2.1 ho (d := 2) rfl
  rw [hs] at x0
  have hgl := Words.Blk.lt h.1.1
  have hbl := (h.1.2.1.lt b rfl).2
  have hd : decide (0 ≤ (k : Int) ∧ (k : Int) < (s.l.length : Int)) = true := decide_eq_true (by omega)
  have HD := Lib.hid hd
  have HF := Lib.hid (h.2.2 o (List.mem_of_getElem? ho))
  have HM := Lib.hid h.1.2.2.1
  clear h hd
  go_enter Try.func16, Try.ntmps16
  go_wp2_with fail
  refine (has_any B g _ m1 m2 N s _ H.out k).mono ?_
  rintro e w1 ⟨rfl, rfl⟩
  rw [HD.out]
  have hb2 : Below w.heap.size w ((w.alloc (.cells #[.bool false, .int .i64 0, .bool false] 37)).alloc (.cells #[.bool true, .int .i64 o.at_, .bool false] 37)) := ((Below.refl _ _).alloc (Nat.le_refl _) _).alloc (by simp) _
  have l0 : ∀ n, (Instr.lookup 46 (.map (some m1)) (.int .i64 o.grp) true).run Try.prog (((w.alloc (.cells #[.bool false, .int .i64 0, .bool false] 37)).alloc (.cells #[.bool true, .int .i64 o.at_, .bool false] 37)).drewN n) = .ok (.tuple #[.int .i64 ((s.first o.grp).getD 0), .bool (s.first o.grp).isSome]) (((w.alloc (.cells #[.bool false, .int .i64 0, .bool false] 37)).alloc (.cells #[.bool true, .int .i64 o.at_, .bool false] 37)).drewN n) :=
    fun n => (MapAt.block (w' := ((w.alloc (.cells #[.bool false, .int .i64 0, .bool false] 37)).alloc (.cells #[.bool true, .int .i64 o.at_, .bool false] 37)).drewN n) HM.out (hb2.block m1 HM.out.lt)).look_ok HF.out
  have HB2 := Lib.hid hb2
  clear hb2
  rcases hf : s.first o.grp with _ | f
  · have HDD : Hid (decide (s.first o.grp = some (k : Int)) = false) := Lib.hid (by rw [hf]; simp)
    simp only [hf, Option.getD_none, Option.isSome_none] at l0
    clear hf
    go_upto_region 4 with fail
    go_quiet (fail)
    go_wp2_with fail
    refine bodyPost_ret (v := .agg #[.bool true, .int .i64 o.at_, .bool false]) (by simp [results, Try.results16, go_sem]) rfl ⟨by rw [HDD.out], ?_⟩
    exact (((((below_drewn HB2.out nq).setCell (by simp) _).setCell (by simp) _).setCell (by simp) _).setCell (by simp) _)
  · by_cases hfk : f = (k : Int)
    · have HDD : Hid (decide (s.first o.grp = some (k : Int)) = true) := Lib.hid (by rw [hf, hfk]; simp)
      simp only [hf, Option.getD_some, Option.isSome_some] at l0
      have hfb : (f == (k : Int)) = true := by simp [hfk]
      clear hf hfk
      go_upto_region 4 with fail
      go_quiet (fail)
      go_wp2_with fail
      refine bodyPost_ret (v := .agg #[.bool true, .int .i64 o.at_, .bool true]) (by simp [results, Try.results16, go_sem]) rfl ⟨by rw [HDD.out], ?_⟩
      exact (((((below_drewn HB2.out nq).setCell (by simp) _).setCell (by simp) _).setCell (by simp) _).setCell (by simp) _)
    · have HDD : Hid (decide (s.first o.grp = some (k : Int)) = false) := Lib.hid (by rw [hf]; simp [hfk])
      simp only [hf, Option.getD_some, Option.isSome_some] at l0
      have hfb : (f == (k : Int)) = false := by simp [hfk]
      clear hf hfk
      go_upto_region 4 with fail
      go_quiet (fail)
      go_wp2_with fail
      refine bodyPost_ret (v := .agg #[.bool true, .int .i64 o.at_, .bool false]) (by simp [results, Try.results16, go_sem]) rfl ⟨by rw [HDD.out], ?_⟩
      exact (((((below_drewn HB2.out nq).setCell (by simp) _).setCell (by simp) _).setCell (by simp) _).setCell (by simp) _)
theorem At_any (B g : Nat) (v : Value) (m1 m2 N : Nat) (s : LS) (w : World) (h : LAt B g v m1 m2 N s w) (i : Int) :
    Calls Try.prog 16 #[.pointer (some ⟨g, 0, none⟩), .int .i64 i] w fun e w' => e = .returned (latV (atL s i)) ∧ Below w.heap.size w w' := by
  unfold atL
  rcases at_cases s i with ⟨hi, e⟩ | ⟨k, o, rfl, ho, e⟩
  · rw [e]
    exact At_out B g v m1 m2 N s w h i hi
  · rw [e]
    simp only [Int.toNat_natCast]
    unfold seen
    by_cases hs : o.set = true
    · rw [if_pos hs]
      exact At_set B g v m1 m2 N s w h k o ho hs
    · rw [if_neg hs]
      exact At_clear B g v m1 m2 N s w h k o ho (by simpa using hs)
theorem atL_view (s : LS) (k : Nat) (x : Lat) (h : (view s)[k]? = some x) : atL s k = x := by
  rw [view_at] at h
  unfold atL
  rw [if_pos (by omega), Int.toNat_natCast]
  rcases ho : s.l[k]? with _ | o
  · rw [ho] at h; cases h
  · rw [ho] at h
    simp only [Option.map_some, Option.some.injEq] at h
    exact h
set_option maxRecDepth 100000 in
/-- First -/
theorem First_any (B g : Nat) (v : Value) (m1 m2 N : Nat) (s : LS) (w : World) (h : LAt B g v m1 m2 N s w) (gr : Int) (hgr : Fit64 gr) :
    Calls Try.prog 21 #[.pointer (some ⟨g, 0, none⟩), .int .i64 gr] w fun e w' => e = .returned (.tuple #[.int .i64 ((s.first gr).getD 0), .bool (s.first gr).isSome]) ∧ w = w' := by
  have c1 : w.cell? ⟨g, 1, none⟩ = some (.map (some m1)) := h.1.1.cell 1
  have l1 := h.1.2.2.1.look_ok hgr
  clear h
  go_enter Try.func21, Try.ntmps21
  go_wp2_with fail
  go_ret2
  exact ⟨rfl, rfl⟩
end Go.Proofs.Ytcaobjmngdlklaa
