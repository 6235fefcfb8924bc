/-
  THE WALK of lamp: how a lamp goes.
-/
import Derived.Test.YtckbdnkonccmiaaDoorMatWord
namespace Go.Proofs.YtckbdnkonccmiaaDoor
open Go.RowKit
def lampL : List ByteArray := [⟨#[97]⟩, ⟨#[109]⟩, ⟨#[114]⟩, ⟨#[102, 49, 97]⟩, ⟨#[102, 50, 109]⟩, ⟨#[102, 51, 97]⟩]
def lampsV : Array Value := #[.string ⟨#[97]⟩, .string ⟨#[109]⟩, .string ⟨#[114]⟩, .string ⟨#[102, 49, 97]⟩, .string ⟨#[102, 50, 109]⟩, .string ⟨#[102, 51, 97]⟩]
def lampO (s : ByteArray) : Option Int := if s = ⟨#[97]⟩ then some 1 else if s = ⟨#[109]⟩ then some 2 else if s = ⟨#[114]⟩ then some 3 else if s = ⟨#[102, 49, 97]⟩ then some 4 else if s = ⟨#[102, 50, 109]⟩ then some 5 else if s = ⟨#[102, 51, 97]⟩ then some 6 else none
def lampF (ls : List ByteArray) (wr : Bool) : Int × List ByteArray × Bool := match lampO (wordF ls wr).1 with | some n => (n, (wordF ls wr).2, wr) | none => (0, (wordF ls wr).2, true)
theorem lampF_none {ls : List ByteArray} {wr : Bool} (h : lampO (wordF ls wr).1 = none) : lampF ls wr = (0, (wordF ls wr).2, true) := by unfold lampF; rw [h]
theorem lampF_some {ls : List ByteArray} {wr : Bool} {n : Int} (h : lampO (wordF ls wr).1 = some n) : lampF ls wr = (n, (wordF ls wr).2, wr) := by unfold lampF; rw [h]
set_option maxHeartbeats 1000000 in
set_option maxRecDepth 100000 in
theorem lamps_any (w : World) : Calls Tryd.prog 21 #[] w fun e w' => e = .returned (.agg lampsV) ∧ w.alloc (.cells lampsV 58) = w' := by
  go_enter Tryd.func21, Tryd.ntmps21
  go_wp2_with fail
  (try simp only [Exit.inBlock, Exit.then])
  exact bodyPost_ret (results_cell_row rfl _ _ w.heap.size 58 lampsV (0, 0) _ (by rfl) (heap_alloc_new w _) Tryd.underlying58 rfl (by kernel_rfl)) rfl ⟨rfl, rfl⟩
set_option maxHeartbeats 4000000 in
set_option maxRecDepth 100000 in
theorem lamp_any (c : RC) (ls : List ByteArray) (wr un : Bool) (w : World) (h : RS c ls wr un w) (hl : ls.length ≤ 1000000) :
    Calls Tryd.prog 74 #[.pointer (some ⟨c.g, 12, none⟩)] w fun e w' => e = .returned (.int .i64 (lampF ls wr).1) ∧ RT c (lampF ls wr).2.1 (lampF ls wr).2.2 un w w' := by
  have hw := word_any c ls wr un w h hl
  have HF := @lampF_none ls wr
  have HG := fun n => @lampF_some ls wr n
  obtain ⟨F, hF⟩ : ∃ F, F = lampF ls wr := ⟨_, rfl⟩
  rw [← hF] at HF HG ⊢
  generalize wordF ls wr = sl at *
  obtain ⟨s, ls'⟩ := sl
  (try simp only at hw HF HG)
  have HW := Lib.hid hw
  have HFN := Lib.hid HF
  have HFS := Lib.hid HG
  clear hw h hF HF HG
  go_enter Tryd.func74, Tryd.ntmps74
  go_wp2_with fail
  refine HW.out.mono ?_
  rintro e w1 ⟨rfl, h1, hgr⟩
  obtain ⟨vl, h1⟩ := h1
  have HR0 := Lib.hid h1
  have HG0 := Lib.hid hgr
  clear h1 hgr HW
  go_wp2_with fail
  refine (lamps_any w1).mono ?_
  rintro e w2 ⟨rfl, hw2⟩
  have HR := Lib.hid (show RV c ls' wr un vl w2 by rw [← hw2]; exact HR0.out.alloc _)
  have HGR := Lib.hid (show w.grownBy w2 (some c.g) by rw [← hw2]; exact grown_trans HG0.out (World.grownBy_alloc _ _ _))
  have f13 : w2.frozen? ⟨c.g, 13, none⟩ = false := HR.out.free 13
  have c13 : w2.cell? ⟨c.g, 13, none⟩ = some (.bool wr) := HR.out.cell 13
  clear hw2 HR0 HG0
  unfold lampsV
  go_wp2_with fail
  go_loopw [9] (fun i wr' => ∃ k : Nat, k ≤ 6 ∧ i = .int .i64 k ∧ Hid (Upto (fun _ x => s ≠ x) lampL k) ∧ Hid (w2 = wr')) (fun i _ => 6 - (intOf i).toNat)
  case atStart => exact ⟨0, by omega, rfl, Lib.hid (upto_zero _ _), Lib.hid rfl⟩
  case round =>
    obtain ⟨k, hk, rfl, HU, HX⟩ := hrel
    obtain rfl := HX.out
    by_cases hlt : k < 6
    · have hcs : k = 0 ∨ k = 1 ∨ k = 2 ∨ k = 3 ∨ k = 4 ∨ k = 5 := by omega
      rcases hcs with rfl | rfl | rfl | rfl | rfl | rfl
      · have hix : ∀ w, (Instr.index 58 (.agg #[.string ⟨#[97]⟩, .string ⟨#[109]⟩, .string ⟨#[114]⟩, .string ⟨#[102, 49, 97]⟩, .string ⟨#[102, 50, 109]⟩, .string ⟨#[102, 51, 97]⟩]) (.int .i64 0)).run Tryd.prog w = .ok (.string ⟨#[97]⟩) w := fun _ => by kernel_rfl
        by_cases hs : s = ⟨#[97]⟩
        · have HN := Lib.hid (HFS.out 1 (by unfold lampO;  rw [if_pos hs]))
          have e1 : (s.toList == [97]) = true := by rw [hs]; kernel_rfl
          have e2 : ([97] == s.toList) = true := by rw [hs]; kernel_rfl
          clear hs
          go_wp2_with fail
          go_ret
          rw [HN.out]
          exact ⟨rfl, ⟨_, HR.out⟩, HGR.out⟩
        · have HU2 := Lib.hid (upto_step (x := ⟨#[97]⟩) (k := 0) HU.out rfl hs)
          have e1 : (s.toList == [97]) = false := by
            rw [beq_eq_false_iff_ne, ByteArray.toList_eq]
            intro e
            exact hs (ByteArray.ext (Array.toList_inj.1 e))
          have e2 : ([97] == s.toList) = false := by
            rw [beq_eq_false_iff_ne] at e1 ⊢
            exact fun e => e1 e.symm
          clear hs
          go_wp2_with fail
          go_roundw
          case rel => exact ⟨1, by omega, rfl, HU2, Lib.hid (by trivial)⟩
          case measure => simp [intOf]
      · have hix : ∀ w, (Instr.index 58 (.agg #[.string ⟨#[97]⟩, .string ⟨#[109]⟩, .string ⟨#[114]⟩, .string ⟨#[102, 49, 97]⟩, .string ⟨#[102, 50, 109]⟩, .string ⟨#[102, 51, 97]⟩]) (.int .i64 1)).run Tryd.prog w = .ok (.string ⟨#[109]⟩) w := fun _ => by kernel_rfl
        by_cases hs : s = ⟨#[109]⟩
        · have HN := Lib.hid (HFS.out 2 (by unfold lampO; rw [if_neg (HU.out 0 _ (by omega) rfl)]; rw [if_pos hs]))
          have e1 : (s.toList == [109]) = true := by rw [hs]; kernel_rfl
          have e2 : ([109] == s.toList) = true := by rw [hs]; kernel_rfl
          clear hs
          go_wp2_with fail
          go_ret
          rw [HN.out]
          exact ⟨rfl, ⟨_, HR.out⟩, HGR.out⟩
        · have HU2 := Lib.hid (upto_step (x := ⟨#[109]⟩) (k := 1) HU.out rfl hs)
          have e1 : (s.toList == [109]) = false := by
            rw [beq_eq_false_iff_ne, ByteArray.toList_eq]
            intro e
            exact hs (ByteArray.ext (Array.toList_inj.1 e))
          have e2 : ([109] == s.toList) = false := by
            rw [beq_eq_false_iff_ne] at e1 ⊢
            exact fun e => e1 e.symm
          clear hs
          go_wp2_with fail
          go_roundw
          case rel => exact ⟨2, by omega, rfl, HU2, Lib.hid (by trivial)⟩
          case measure => simp [intOf]
      · have hix : ∀ w, (Instr.index 58 (.agg #[.string ⟨#[97]⟩, .string ⟨#[109]⟩, .string ⟨#[114]⟩, .string ⟨#[102, 49, 97]⟩, .string ⟨#[102, 50, 109]⟩, .string ⟨#[102, 51, 97]⟩]) (.int .i64 2)).run Tryd.prog w = .ok (.string ⟨#[114]⟩) w := fun _ => by kernel_rfl
        by_cases hs : s = ⟨#[114]⟩
        · have HN := Lib.hid (HFS.out 3 (by unfold lampO; rw [if_neg (HU.out 0 _ (by omega) rfl)]; rw [if_neg (HU.out 1 _ (by omega) rfl)]; rw [if_pos hs]))
          have e1 : (s.toList == [114]) = true := by rw [hs]; kernel_rfl
          have e2 : ([114] == s.toList) = true := by rw [hs]; kernel_rfl
          clear hs
          go_wp2_with fail
          go_ret
          rw [HN.out]
          exact ⟨rfl, ⟨_, HR.out⟩, HGR.out⟩
        · have HU2 := Lib.hid (upto_step (x := ⟨#[114]⟩) (k := 2) HU.out rfl hs)
          have e1 : (s.toList == [114]) = false := by
            rw [beq_eq_false_iff_ne, ByteArray.toList_eq]
            intro e
            exact hs (ByteArray.ext (Array.toList_inj.1 e))
          have e2 : ([114] == s.toList) = false := by
            rw [beq_eq_false_iff_ne] at e1 ⊢
            exact fun e => e1 e.symm
          clear hs
          go_wp2_with fail
          go_roundw
          case rel => exact ⟨3, by omega, rfl, HU2, Lib.hid (by trivial)⟩
          case measure => simp [intOf]
      · have hix : ∀ w, (Instr.index 58 (.agg #[.string ⟨#[97]⟩, .string ⟨#[109]⟩, .string ⟨#[114]⟩, .string ⟨#[102, 49, 97]⟩, .string ⟨#[102, 50, 109]⟩, .string ⟨#[102, 51, 97]⟩]) (.int .i64 3)).run Tryd.prog w = .ok (.string ⟨#[102, 49, 97]⟩) w := fun _ => by kernel_rfl
        by_cases hs : s = ⟨#[102, 49, 97]⟩
        · have HN := Lib.hid (HFS.out 4 (by unfold lampO; rw [if_neg (HU.out 0 _ (by omega) rfl)]; rw [if_neg (HU.out 1 _ (by omega) rfl)]; rw [if_neg (HU.out 2 _ (by omega) rfl)]; rw [if_pos hs]))
          have e1 : (s.toList == [102, 49, 97]) = true := by rw [hs]; kernel_rfl
          have e2 : ([102, 49, 97] == s.toList) = true := by rw [hs]; kernel_rfl
          clear hs
          go_wp2_with fail
          go_ret
          rw [HN.out]
          exact ⟨rfl, ⟨_, HR.out⟩, HGR.out⟩
        · have HU2 := Lib.hid (upto_step (x := ⟨#[102, 49, 97]⟩) (k := 3) HU.out rfl hs)
          have e1 : (s.toList == [102, 49, 97]) = false := by
            rw [beq_eq_false_iff_ne, ByteArray.toList_eq]
            intro e
            exact hs (ByteArray.ext (Array.toList_inj.1 e))
          have e2 : ([102, 49, 97] == s.toList) = false := by
            rw [beq_eq_false_iff_ne] at e1 ⊢
            exact fun e => e1 e.symm
          clear hs
          go_wp2_with fail
          go_roundw
          case rel => exact ⟨4, by omega, rfl, HU2, Lib.hid (by trivial)⟩
          case measure => simp [intOf]
      · have hix : ∀ w, (Instr.index 58 (.agg #[.string ⟨#[97]⟩, .string ⟨#[109]⟩, .string ⟨#[114]⟩, .string ⟨#[102, 49, 97]⟩, .string ⟨#[102, 50, 109]⟩, .string ⟨#[102, 51, 97]⟩]) (.int .i64 4)).run Tryd.prog w = .ok (.string ⟨#[102, 50, 109]⟩) w := fun _ => by kernel_rfl
        by_cases hs : s = ⟨#[102, 50, 109]⟩
        · have HN := Lib.hid (HFS.out 5 (by unfold lampO; rw [if_neg (HU.out 0 _ (by omega) rfl)]; rw [if_neg (HU.out 1 _ (by omega) rfl)]; rw [if_neg (HU.out 2 _ (by omega) rfl)]; rw [if_neg (HU.out 3 _ (by omega) rfl)]; rw [if_pos hs]))
          have e1 : (s.toList == [102, 50, 109]) = true := by rw [hs]; kernel_rfl
          have e2 : ([102, 50, 109] == s.toList) = true := by rw [hs]; kernel_rfl
          clear hs
          go_wp2_with fail
          go_ret
          rw [HN.out]
          exact ⟨rfl, ⟨_, HR.out⟩, HGR.out⟩
        · have HU2 := Lib.hid (upto_step (x := ⟨#[102, 50, 109]⟩) (k := 4) HU.out rfl hs)
          have e1 : (s.toList == [102, 50, 109]) = false := by
            rw [beq_eq_false_iff_ne, ByteArray.toList_eq]
            intro e
            exact hs (ByteArray.ext (Array.toList_inj.1 e))
          have e2 : ([102, 50, 109] == s.toList) = false := by
            rw [beq_eq_false_iff_ne] at e1 ⊢
            exact fun e => e1 e.symm
          clear hs
          go_wp2_with fail
          go_roundw
          case rel => exact ⟨5, by omega, rfl, HU2, Lib.hid (by trivial)⟩
          case measure => simp [intOf]
      · have hix : ∀ w, (Instr.index 58 (.agg #[.string ⟨#[97]⟩, .string ⟨#[109]⟩, .string ⟨#[114]⟩, .string ⟨#[102, 49, 97]⟩, .string ⟨#[102, 50, 109]⟩, .string ⟨#[102, 51, 97]⟩]) (.int .i64 5)).run Tryd.prog w = .ok (.string ⟨#[102, 51, 97]⟩) w := fun _ => by kernel_rfl
        by_cases hs : s = ⟨#[102, 51, 97]⟩
        · have HN := Lib.hid (HFS.out 6 (by unfold lampO; rw [if_neg (HU.out 0 _ (by omega) rfl)]; rw [if_neg (HU.out 1 _ (by omega) rfl)]; rw [if_neg (HU.out 2 _ (by omega) rfl)]; rw [if_neg (HU.out 3 _ (by omega) rfl)]; rw [if_neg (HU.out 4 _ (by omega) rfl)]; rw [if_pos hs]))
          have e1 : (s.toList == [102, 51, 97]) = true := by rw [hs]; kernel_rfl
          have e2 : ([102, 51, 97] == s.toList) = true := by rw [hs]; kernel_rfl
          clear hs
          go_wp2_with fail
          go_ret
          rw [HN.out]
          exact ⟨rfl, ⟨_, HR.out⟩, HGR.out⟩
        · have HU2 := Lib.hid (upto_step (x := ⟨#[102, 51, 97]⟩) (k := 5) HU.out rfl hs)
          have e1 : (s.toList == [102, 51, 97]) = false := by
            rw [beq_eq_false_iff_ne, ByteArray.toList_eq]
            intro e
            exact hs (ByteArray.ext (Array.toList_inj.1 e))
          have e2 : ([102, 51, 97] == s.toList) = false := by
            rw [beq_eq_false_iff_ne] at e1 ⊢
            exact fun e => e1 e.symm
          clear hs
          go_wp2_with fail
          go_roundw
          case rel => exact ⟨6, by omega, rfl, HU2, Lib.hid (by trivial)⟩
          case measure => simp [intOf]
    · obtain rfl : k = 6 := by omega
      have HN := Lib.hid (HFN.out (by unfold lampO; rw [if_neg (HU.out 0 _ (by omega) rfl)]; rw [if_neg (HU.out 1 _ (by omega) rfl)]; rw [if_neg (HU.out 2 _ (by omega) rfl)]; rw [if_neg (HU.out 3 _ (by omega) rfl)]; rw [if_neg (HU.out 4 _ (by omega) rfl)]; rw [if_neg (HU.out 5 _ (by omega) rfl)]))
      go_wp2_with fail
      go_ret
      rw [HN.out]
      exact ⟨rfl, ⟨_, HR.out.store 13 _ rfl HR.out.left⟩, grown_trans HGR.out (grown_set _ _ _ _)⟩
end Go.Proofs.YtckbdnkonccmiaaDoor
