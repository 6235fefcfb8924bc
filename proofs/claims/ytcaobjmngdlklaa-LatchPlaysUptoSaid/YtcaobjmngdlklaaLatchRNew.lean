/-
  The document's New, walked.
-/
import Derived.Test.YtcaobjmngdlklaaLatchRef3
import Derived.Deep.RegionHeldLaw
import Derived.Deep.RegionLaw
namespace Go.Proofs.Ytcaobjmngdlklaa
open Go.RowKit
def zeros (n : Nat) : List Lat := List.replicate n ⟨false, 0, false⟩
theorem zeros_made (w : World) (n base : Nat) (hb : base ≤ w.heap.size) (hn : n ≤ 2000000) :
    (w.alloc (.cells (madeCells (Value.agg #[.bool false, .int .i64 0, .bool false]).cells (n * 3)) 37)).ownsRow base 37 3 (.slice (some ⟨w.heap.size, 0, none⟩) n n) (zeros n).length ((zeros n).flatMap latC) := by
  have h := World.ownsRow_lit (base := base) (e := 37) (size := 3) w (madeCells (Value.agg #[.bool false, .int .i64 0, .bool false]).cells (n * 3)) n hb (by simp only [maxLen]; omega) (size_madeCells _ _)
  have hz : (zeros n).length = n := by simp [zeros]
  have h2 := made_flat (z := (Value.agg #[.bool false, .int .i64 0, .bool false]).cells) (m := 3) (by decide) latC_len (zeros n) (fun x hx => by rw [List.eq_of_mem_replicate hx]; rfl)
  rw [hz] at h2 ⊢
  rw [← h2]
  exact h
def RNewAt (gs : List Int) (w : World) (e : Ending) (w' : World) : Prop := ∃ g, e = .returned (.pointer (some ⟨g, 0, none⟩)) ∧ RAt w.heap.size g gs (zeros gs.length) w' ∧ Below w.heap.size w w'
theorem nums_reads {w : World} {gs : List Int} {A : Option Addr} {c : Nat} (h : NumsAt w gs (.slice A gs.length c)) : Words.Reads w w.heap.size 1 A gs.length (gs.flatMap nC) := by
  obtain ⟨A', c', e, -, hr⟩ := LawFrame.RowsAt.reads (f := nC) nC_len (by decide) h
  injection e with e1 _ _
  subst e1
  exact hr
/-- the three orders of append and make -/
theorem rnew_end {gs : List Int} {w w1 : World} {vG vL : Value} (h1 : w1.ownsRow w.heap.size 3 1 vG gs.length (gs.flatMap nC)) (h2 : w1.ownsRow w.heap.size 37 3 vL (zeros gs.length).length ((zeros gs.length).flatMap latC)) (hb : Below w.heap.size w w1) :
    RAt w.heap.size w1.heap.size gs (zeros gs.length) (w1.alloc (.cells #[vG, vL] 52)) ∧ Below w.heap.size w (w1.alloc (.cells #[vG, vL] 52)) :=
  ⟨⟨vG, vL, Words.Blk.new _ _ _, h1.alloc _, h2.alloc _, hb.size⟩, hb.alloc hb.size _⟩
theorem rnew_case1 {gs : List Int} {w w5 : World} {A5 : Option Addr} {c5 : Nat} (hl : gs.length ≤ 2000000) (ho : w5.ownsRow w.heap.size 3 1 (.slice A5 (0 + gs.length) c5) (0 + gs.length) ([] ++ gs.flatMap nC)) (hg : (w.alloc (.cells #[] 3)).drew.grownBy w5 (Value.slice (some ⟨w.heap.size, 0, none⟩) 0 0).ownBlock) :
    RAt w.heap.size (w5.heap.size + 1) gs (zeros gs.length) ((w5.alloc (.cells (madeCells (Value.agg #[.bool false, .int .i64 0, .bool false]).cells (gs.length * 3)) 37)).alloc (.cells #[.slice A5 gs.length c5, .slice (some ⟨w5.heap.size, 0, none⟩) gs.length gs.length] 52)) ∧
      Below w.heap.size w ((w5.alloc (.cells (madeCells (Value.agg #[.bool false, .int .i64 0, .bool false]).cells (gs.length * 3)) 37)).alloc (.cells #[.slice A5 gs.length c5, .slice (some ⟨w5.heap.size, 0, none⟩) gs.length gs.length] 52)) := by
  rw [Nat.zero_add, List.nil_append] at ho
  have hb : Below w.heap.size w w5 := (((Below.refl _ _).alloc (Nat.le_refl _) (.cells #[] 3)).drew).grown hg (by show w.heap.size ≤ (w.alloc _).heap.size; simp) (fun k hk => by simp [Value.ownBlock] at hk; omega)
  have := rnew_end (ho.alloc (.cells (madeCells (Value.agg #[.bool false, .int .i64 0, .bool false]).cells (gs.length * 3)) 37)) (zeros_made w5 gs.length w.heap.size hb.size hl) (hb.alloc hb.size _)
  simpa using this
theorem rnew_case2 {gs : List Int} {w w5 : World} {A5 : Option Addr} {c5 : Nat} (hl : gs.length ≤ 2000000) (ho : w5.ownsRow w.heap.size 3 1 (.slice A5 (0 + gs.length) c5) (0 + gs.length) ([] ++ gs.flatMap nC)) (hg : ((w.alloc (.cells #[] 3)).alloc (.cells (madeCells (Value.agg #[.bool false, .int .i64 0, .bool false]).cells (gs.length * 3)) 37)).drew.grownBy w5 (Value.slice (some ⟨w.heap.size, 0, none⟩) 0 0).ownBlock) :
    RAt w.heap.size w5.heap.size gs (zeros gs.length) (w5.alloc (.cells #[.slice A5 gs.length c5, .slice (some ⟨w.heap.size + 1, 0, none⟩) gs.length gs.length] 52)) ∧
      Below w.heap.size w (w5.alloc (.cells #[.slice A5 gs.length c5, .slice (some ⟨w.heap.size + 1, 0, none⟩) gs.length gs.length] 52)) := by
  rw [Nat.zero_add, List.nil_append] at ho
  have hz := zeros_made (w.alloc (.cells #[] 3)) gs.length w.heap.size (by simp) hl
  rw [World.size_alloc] at hz
  have hz2 : w5.ownsRow w.heap.size 37 3 (.slice (some ⟨w.heap.size + 1, 0, none⟩) gs.length gs.length) (zeros gs.length).length ((zeros gs.length).flatMap latC) := hz.drew.kept hg (.inr (by simp [Value.ownBlock]))
  exact rnew_end ho hz2 (((((Below.refl _ _).alloc (Nat.le_refl _) (.cells #[] 3)).alloc (by simp) _).drew).grown hg (by show w.heap.size ≤ ((w.alloc _).alloc _).heap.size; simp; omega) (fun k hk => by simp [Value.ownBlock] at hk; omega))
theorem rnew_case3 {gs : List Int} {w w5 : World} {A5 : Option Addr} {c5 : Nat} (hl : gs.length ≤ 2000000) (ho : w5.ownsRow w.heap.size 3 1 (.slice A5 (0 + gs.length) c5) (0 + gs.length) ([] ++ gs.flatMap nC)) (hg : ((w.alloc (.cells (madeCells (Value.agg #[.bool false, .int .i64 0, .bool false]).cells (gs.length * 3)) 37)).alloc (.cells #[] 3)).drew.grownBy w5 (Value.slice (some ⟨w.heap.size + 1, 0, none⟩) 0 0).ownBlock) :
    RAt w.heap.size w5.heap.size gs (zeros gs.length) (w5.alloc (.cells #[.slice A5 gs.length c5, .slice (some ⟨w.heap.size, 0, none⟩) gs.length gs.length] 52)) ∧
      Below w.heap.size w (w5.alloc (.cells #[.slice A5 gs.length c5, .slice (some ⟨w.heap.size, 0, none⟩) gs.length gs.length] 52)) := by
  rw [Nat.zero_add, List.nil_append] at ho
  have hz := (zeros_made w gs.length w.heap.size (Nat.le_refl _) hl).alloc (.cells #[] 3)
  have hz2 : w5.ownsRow w.heap.size 37 3 (.slice (some ⟨w.heap.size, 0, none⟩) gs.length gs.length) (zeros gs.length).length ((zeros gs.length).flatMap latC) := hz.drew.kept hg (.inr (by simp [Value.ownBlock]))
  exact rnew_end ho hz2 (((((Below.refl _ _).alloc (Nat.le_refl _) _).alloc (by simp) (.cells #[] 3)).drew).grown hg (by show w.heap.size ≤ ((w.alloc _).alloc _).heap.size; simp; omega) (fun k hk => by simp [Value.ownBlock] at hk; omega))
set_option maxHeartbeats 2000000 in
set_option maxRecDepth 100000 in
theorem RNew_any (gs : List Int) (v : Value) (w : World) (h : NumsAt w gs v) (hl : gs.length ≤ 2000000) : Calls Try.prog 8 #[v] w (RNewAt gs w) := by
  obtain ⟨i0, hi0, hz0, hz1, hz2⟩ := info_parts int_info
  obtain ⟨i1, hi1, hz10, hz11, hz12⟩ := info_parts lat_info
  have hmk : ∀ w : World, (Instr.makeSlice 30 (.int .i64 (gs.length : Int)) (.int .i64 (gs.length : Int))).run Try.prog w = .ok (.slice (some ⟨w.heap.size, 0, none⟩) gs.length gs.length) (w.alloc (.cells (madeCells (Value.agg #[.bool false, .int .i64 0, .bool false]).cells (gs.length * 3)) 37)) := fun w => by
    have := run_make (P := Try.prog) w 30 37 i1 _ Try.underlying30 hi1 hz10 .i64 .i64 gs.length gs.length (by omega) (Int.le_refl _) (by rw [hz12]; omega) (by omega)
    rw [hz11] at this
    simpa using this
  have hv := h
  obtain ⟨A, c, rfl, hc, -⟩ := hv
  have HR := Lib.hid (nums_reads h)
  have HO := Lib.hid (one_nums gs)
  clear h
  go_enter Try.func8, Try.ntmps8
  go_wp2_with fail
  go_region_law (first | (refine Words.step_append_any (w.alloc (.cells #[] 3)).drew (by rfl) (.tmp 3) (.tmp 4) 22 (by rfl) w.heap.size 3 i0 (.int .i64 0) 1 8 Try.underlying22 hi0 hz0 hz1 hz2 rfl (by omega) (.slice (some ⟨w.heap.size, 0, none⟩) 0 0) 0 [] (by rfl) (lit_nil w 3 1 _ rfl (Nat.le_refl _)) w.heap.size A gs.length c (gs.flatMap nC) (by rfl) (HR.out.alloc (Nat.le_refl _) _) HO.out (by simp only [maxLen]; omega) (by omega) (by simp; try omega) ?_; intro v' w5 ho hg5 _; obtain ⟨A5, c5, rfl⟩ := own_form ho; have HW := Lib.hid (rnew_case1 hl ho hg5); clear ho hg5) | (refine Words.step_append_any ((w.alloc (.cells #[] 3)).alloc (.cells (madeCells (Value.agg #[.bool false, .int .i64 0, .bool false]).cells (gs.length * 3)) 37)).drew (by rfl) (.tmp 3) (.tmp 4) 22 (by rfl) w.heap.size 3 i0 (.int .i64 0) 1 8 Try.underlying22 hi0 hz0 hz1 hz2 rfl (by omega) (.slice (some ⟨w.heap.size, 0, none⟩) 0 0) 0 [] (by rfl) ((lit_nil w 3 1 _ rfl (Nat.le_refl _)).alloc _) w.heap.size A gs.length c (gs.flatMap nC) (by rfl) ((HR.out.alloc (Nat.le_refl _) _).alloc (by simp) _) HO.out (by simp only [maxLen]; omega) (by omega) (by simp; try omega) ?_; intro v' w5 ho hg5 _; obtain ⟨A5, c5, rfl⟩ := own_form ho; have HW := Lib.hid (rnew_case2 hl ho hg5); clear ho hg5) | (refine Words.step_append_any ((w.alloc (.cells (madeCells (Value.agg #[.bool false, .int .i64 0, .bool false]).cells (gs.length * 3)) 37)).alloc (.cells #[] 3)).drew (by rfl) (.tmp 3) (.tmp 4) 22 (by rfl) w.heap.size 3 i0 (.int .i64 0) 1 8 Try.underlying22 hi0 hz0 hz1 hz2 rfl (by omega) (.slice (some ⟨w.heap.size + 1, 0, none⟩) 0 0) 0 [] (by rfl) (lit_nil _ 3 1 _ (by simp) (by omega)) w.heap.size A gs.length c (gs.flatMap nC) (by rfl) ((HR.out.alloc (Nat.le_refl _) _).alloc (by simp) _) HO.out (by simp only [maxLen]; omega) (by omega) (by simp; try omega) ?_; intro v' w5 ho hg5 _; obtain ⟨A5, c5, rfl⟩ := own_form ho; have HW := Lib.hid (rnew_case3 hl ho hg5); clear ho hg5))
  all_goals go_wp2_with fail
  all_goals go_ret
  all_goals exact ⟨_, rfl, HW.out.1, HW.out.2⟩
end Go.Proofs.Ytcaobjmngdlklaa
