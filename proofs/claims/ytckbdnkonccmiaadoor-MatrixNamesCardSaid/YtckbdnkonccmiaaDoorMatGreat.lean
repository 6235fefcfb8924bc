/-
  Great, walked: some bool.
-/
import Derived.Test.YtckbdnkonccmiaaDoorMatLib
namespace Go.Proofs.YtckbdnkonccmiaaDoor
open Go.RowKit
def SomeB (w : World) (e : Ending) (w' : World) : Prop := (∃ b : Bool, e = .returned (.bool b)) ∧ Below w.heap.size w w'
set_option maxHeartbeats 4000000 in
set_option maxRecDepth 100000 in
theorem great_any (w : World) (m : Mat) (vd vp vc ve : Value) (h : MatAt w m vd vp vc ve) (hm : MatSmall m) :
    Calls Tryd.prog 9 #[m.val vd vp vc ve] w (SomeB w) := by
  obtain ⟨r, wt, bk, cy, key, ds, ps, cs, es⟩ := m
  obtain ⟨Ad, cd, e, hcd, -⟩ := id h.1
  simp only at e
  subst e
  obtain ⟨Ap, cp, e, hcp, -⟩ := id h.2.1
  simp only at e
  subst e
  obtain ⟨Ac, cc, e, hcc, -⟩ := id h.2.2.1.1
  simp only at e
  subst e
  obtain ⟨Ae, ce, e, hce, -⟩ := id h.2.2.2.1
  simp only at e
  subst e
  have HL := Lib.hid h
  have hsd := hm.devs
  have hsp := hm.pts
  have hsc := hm.css
  have hse := hm.efs
  simp only at hsd hsp hsc hse
  clear h hm
  unfold Mat.val
  simp only
  go_enter Tryd.func9, Tryd.ntmps9
  have HQ : Hid (Below w.heap.size w (w.alloc (.cells #[.int .i64 r, .int .i64 wt, .int .i64 bk, .int .i64 cy, .string key, .slice Ad ds.length cd, .slice Ap ps.length cp, .slice Ac cs.length cc, .slice Ae es.length ce] 27)) ∧ Words.Blk (w.alloc (.cells #[.int .i64 r, .int .i64 wt, .int .i64 bk, .int .i64 cy, .string key, .slice Ad ds.length cd, .slice Ap ps.length cp, .slice Ac cs.length cc, .slice Ae es.length ce] 27)) w.heap.size 27 #[.int .i64 r, .int .i64 wt, .int .i64 bk, .int .i64 cy, .string key, .slice Ad ds.length cd, .slice Ap ps.length cp, .slice Ac cs.length cc, .slice Ae es.length ce]) := Lib.hid ⟨(Below.refl _ _).alloc (Nat.le_refl _) _, Words.Blk.new w _ _⟩
  go_upto_block 0 with fail
  go_cut [3] (fun n wx => ∃ N : Int, n = .int .i64 N ∧ Hid (Below w.heap.size w wx ∧ Words.Blk wx w.heap.size 27 #[.int .i64 r, .int .i64 wt, .int .i64 bk, .int .i64 cy, .string key, .slice Ad ds.length cd, .slice Ap ps.length cp, .slice Ac cs.length cc, .slice Ae es.length ce]))
  case first =>
    go_wp2_with fail
    go_loopw [3, 4] (fun n i wr => ∃ (k : Nat) (N : Int), k ≤ cs.length ∧ i = .int .i64 k ∧ n = .int .i64 N ∧ Hid (Below w.heap.size w wr ∧ Words.Blk wr w.heap.size 27 #[.int .i64 r, .int .i64 wt, .int .i64 bk, .int .i64 cy, .string key, .slice Ad ds.length cd, .slice Ap ps.length cp, .slice Ac cs.length cc, .slice Ae es.length ce])) (fun _ i _ => cs.length - (intOf i).toNat)
    case atStart => exact ⟨0, _, Nat.zero_le _, rfl, rfl, HQ⟩
    case round =>
      clear HQ
      obtain ⟨k, N, hk, rfl, rfl, HW⟩ := hrel
      have z : wr.cell? ⟨w.heap.size, 7, none⟩ = some (.slice Ac cs.length cc) := HW.out.2.cell 7
      have hk0 : (0 : Int) ≤ (k : Int) := by omega
      by_cases hlt : k < cs.length
      · obtain ⟨x, hx⟩ : ∃ x, cs[k]? = some x := ⟨_, List.getElem?_eq_getElem hlt⟩
        obtain ⟨b, off, hA, hb, hcell⟩ := row_at (CssAt.below HL.out.2.2.1 HW.out.1).1 hx
        subst hA
        have y0 : wr.cell? ⟨b, off + k * 5, none⟩ = some (.string x.name) := hcell 0 _ rfl
        have y4 := hcell 4 _ rfl
        obtain ⟨Ai, ci, e, hci, -⟩ := id (HL.out.2.2.1.2 x (List.mem_of_getElem? hx))
        rw [e] at y4
        clear e
        have hk1 : (k : Int) < (cs.length : Int) := by omega
        clear hcell hb hx
        by_cases h5 : N < 500
        case neg =>
          go_wp2_with fail
          go_meet
          exact ⟨N, rfl, HW⟩
        go_upto_region 5 with fail
        go_quiet (fail)
        have HW1 := Lib.hid (And.intro (below_drewn HW.out.1 nq) (HW.out.2.drewN nq))
        clear y0 y4 z HW
        generalize wr.drewN nq = wa at *
        go_wp2_with fail
        go_roundw
        case rel => exact ⟨k + 1, _, by omega, by go_num, rfl, HW1⟩
        case measure => simp [intOf]; omega
      · have hk2 : ¬ (k : Int) < (cs.length : Int) := by omega
        go_wp2_with fail
        go_meet
        exact ⟨N, rfl, HW⟩
  case rest =>
  clear HQ
  obtain ⟨N, rfl, HQ⟩ := hcut
  go_upto_block 2 with fail
  go_cut [3] (fun n wx => ∃ N : Int, n = .int .i64 N ∧ Hid (Below w.heap.size w wx ∧ Words.Blk wx w.heap.size 27 #[.int .i64 r, .int .i64 wt, .int .i64 bk, .int .i64 cy, .string key, .slice Ad ds.length cd, .slice Ap ps.length cp, .slice Ac cs.length cc, .slice Ae es.length ce]))
  case first =>
    go_wp2_with fail
    go_loopw [3, 5] (fun n i wr => ∃ (k : Nat) (N : Int), k ≤ es.length ∧ i = .int .i64 k ∧ n = .int .i64 N ∧ Hid (Below w.heap.size w wr ∧ Words.Blk wr w.heap.size 27 #[.int .i64 r, .int .i64 wt, .int .i64 bk, .int .i64 cy, .string key, .slice Ad ds.length cd, .slice Ap ps.length cp, .slice Ac cs.length cc, .slice Ae es.length ce])) (fun _ i _ => es.length - (intOf i).toNat)
    case atStart => exact ⟨0, _, Nat.zero_le _, rfl, rfl, HQ⟩
    case round =>
      clear HQ
      obtain ⟨k, N, hk, rfl, rfl, HW⟩ := hrel
      have z : wr.cell? ⟨w.heap.size, 8, none⟩ = some (.slice Ae es.length ce) := HW.out.2.cell 8
      have hk0 : (0 : Int) ≤ (k : Int) := by omega
      by_cases hlt : k < es.length
      · obtain ⟨x, hx⟩ : ∃ x, es[k]? = some x := ⟨_, List.getElem?_eq_getElem hlt⟩
        obtain ⟨b, off, hA, hb, hcell⟩ := row_at (EfsAt.below HL.out.2.2.2 HW.out.1).1 hx
        subst hA
        have y0 : wr.cell? ⟨b, off + k * 5, none⟩ = some (.string x.name) := hcell 0 _ rfl
        have y4 := hcell 4 _ rfl
        obtain ⟨Ai, ci, e, hci, -⟩ := id (HL.out.2.2.2.2 x (List.mem_of_getElem? hx))
        rw [e] at y4
        clear e
        have hk1 : (k : Int) < (es.length : Int) := by omega
        clear hcell hb hx
        by_cases h5 : N < 500
        case neg =>
          go_wp2_with fail
          go_meet
          exact ⟨N, rfl, HW⟩
        go_upto_region 9 with fail
        go_quiet (fail)
        have HW1 := Lib.hid (And.intro (below_drewn HW.out.1 nq) (HW.out.2.drewN nq))
        clear y0 y4 z HW
        generalize wr.drewN nq = wa at *
        go_wp2_with fail
        go_roundw
        case rel => exact ⟨k + 1, _, by omega, by go_num, rfl, HW1⟩
        case measure => simp [intOf]; omega
      · have hk2 : ¬ (k : Int) < (es.length : Int) := by omega
        go_wp2_with fail
        go_meet
        exact ⟨N, rfl, HW⟩
  case rest =>
  clear HQ
  obtain ⟨N, rfl, HQ⟩ := hcut
  go_upto_block 4 with fail
  go_cut [3] (fun n wx => ∃ N : Int, n = .int .i64 N ∧ Hid (Below w.heap.size w wx ∧ Words.Blk wx w.heap.size 27 #[.int .i64 r, .int .i64 wt, .int .i64 bk, .int .i64 cy, .string key, .slice Ad ds.length cd, .slice Ap ps.length cp, .slice Ac cs.length cc, .slice Ae es.length ce]))
  case first =>
    go_wp2_with fail
    go_loopw [3, 6] (fun n i wr => ∃ (k : Nat) (N : Int), k ≤ ps.length ∧ i = .int .i64 k ∧ n = .int .i64 N ∧ Hid (Below w.heap.size w wr ∧ Words.Blk wr w.heap.size 27 #[.int .i64 r, .int .i64 wt, .int .i64 bk, .int .i64 cy, .string key, .slice Ad ds.length cd, .slice Ap ps.length cp, .slice Ac cs.length cc, .slice Ae es.length ce])) (fun _ i _ => ps.length - (intOf i).toNat)
    case atStart => exact ⟨0, _, Nat.zero_le _, rfl, rfl, HQ⟩
    case round =>
      clear HQ
      obtain ⟨k, N, hk, rfl, rfl, HW⟩ := hrel
      have z : wr.cell? ⟨w.heap.size, 6, none⟩ = some (.slice Ap ps.length cp) := HW.out.2.cell 6
      have hk0 : (0 : Int) ≤ (k : Int) := by omega
      by_cases hlt : k < ps.length
      · obtain ⟨x, hx⟩ : ∃ x, ps[k]? = some x := ⟨_, List.getElem?_eq_getElem hlt⟩
        obtain ⟨b, off, hA, hb, hcell⟩ := row_at (LawFrame.RowsAt.below HL.out.2.1 HW.out.1) hx
        subst hA
        have y0 : wr.cell? ⟨b, off + k * 6, none⟩ = some (.string x.name) := hcell 0 _ rfl
        have hk1 : (k : Int) < (ps.length : Int) := by omega
        clear hcell hb hx
        by_cases h5 : N < 500
        case neg =>
          go_wp2_with fail
          go_meet
          exact ⟨N, rfl, HW⟩
        go_wp2_with fail
        go_roundw
        case rel => exact ⟨k + 1, _, by omega, by go_num, rfl, HW⟩
        case measure => simp [intOf]; omega
      · have hk2 : ¬ (k : Int) < (ps.length : Int) := by omega
        go_wp2_with fail
        go_meet
        exact ⟨N, rfl, HW⟩
  case rest =>
  clear HQ
  obtain ⟨N, rfl, HQ⟩ := hcut
  go_upto_block 6 with fail
  go_cut [3] (fun n wx => ∃ N : Int, n = .int .i64 N ∧ Hid (Below w.heap.size w wx ∧ Words.Blk wx w.heap.size 27 #[.int .i64 r, .int .i64 wt, .int .i64 bk, .int .i64 cy, .string key, .slice Ad ds.length cd, .slice Ap ps.length cp, .slice Ac cs.length cc, .slice Ae es.length ce]))
  case first =>
    go_wp2_with fail
    go_loopw [3, 7] (fun n i wr => ∃ (k : Nat) (N : Int), k ≤ ds.length ∧ i = .int .i64 k ∧ n = .int .i64 N ∧ Hid (Below w.heap.size w wr ∧ Words.Blk wr w.heap.size 27 #[.int .i64 r, .int .i64 wt, .int .i64 bk, .int .i64 cy, .string key, .slice Ad ds.length cd, .slice Ap ps.length cp, .slice Ac cs.length cc, .slice Ae es.length ce])) (fun _ i _ => ds.length - (intOf i).toNat)
    case atStart => exact ⟨0, _, Nat.zero_le _, rfl, rfl, HQ⟩
    case round =>
      clear HQ
      obtain ⟨k, N, hk, rfl, rfl, HW⟩ := hrel
      have z : wr.cell? ⟨w.heap.size, 5, none⟩ = some (.slice Ad ds.length cd) := HW.out.2.cell 5
      have hk0 : (0 : Int) ≤ (k : Int) := by omega
      by_cases hlt : k < ds.length
      · obtain ⟨x, hx⟩ : ∃ x, ds[k]? = some x := ⟨_, List.getElem?_eq_getElem hlt⟩
        obtain ⟨b, off, hA, hb, hcell⟩ := row_at (LawFrame.RowsAt.below HL.out.1 HW.out.1) hx
        subst hA
        have y0 : wr.cell? ⟨b, off + k * 3, none⟩ = some (.string x.name) := hcell 0 _ rfl
        have hk1 : (k : Int) < (ds.length : Int) := by omega
        clear hcell hb hx
        by_cases h5 : N < 500
        case neg =>
          go_wp2_with fail
          go_meet
          exact ⟨N, rfl, HW⟩
        go_wp2_with fail
        go_roundw
        case rel => exact ⟨k + 1, _, by omega, by go_num, rfl, HW⟩
        case measure => simp [intOf]; omega
      · have hk2 : ¬ (k : Int) < (ds.length : Int) := by omega
        go_wp2_with fail
        go_meet
        exact ⟨N, rfl, HW⟩
  case rest =>
  clear HQ
  obtain ⟨N, rfl, HQ⟩ := hcut
  go_wp2_with fail
  go_ret
  exact ⟨⟨_, rfl⟩, HQ.out.1⟩
end Go.Proofs.YtckbdnkonccmiaaDoor
