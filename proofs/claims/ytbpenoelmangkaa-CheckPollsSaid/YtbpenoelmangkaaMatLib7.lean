/-
  The program's causes and effects, walked.
-/
import Derived.Test.YtbpenoelmangkaaMatLib6
namespace Go.Proofs.Ytbpenoelmangkaa
open Go.RowKit
set_option maxHeartbeats 4000000 in
set_option maxRecDepth 100000 in
/-- the length apart: Right tests it ahead -/
theorem lcauses_any (w : World) (m : Mat) (vd vp vc ve : Value) (h : MatAt w m vd vp vc ve) (hm : MatSmall m) :
    Calls Try.prog 50 #[m.val vd vp vc ve] w (Tells (All (csP m.pts.length) m.css) w) := by
  obtain ⟨r, wt, bk, cy, key, ds, ps, cs, es⟩ := m
  obtain ⟨Ad, cd, e, hcd, -⟩ := id h.1
  simp only at e
  subst e
  obtain ⟨Ap, cp, e, hcp, -⟩ := id h.2.1
  simp only at e
  subst e
  obtain ⟨Ac, cc, e, hcc, -⟩ := id h.2.2.1.1
  simp only at e
  subst e
  obtain ⟨Ae, ce, e, hce, -⟩ := id h.2.2.2.1
  simp only at e
  subst e
  have HL := Lib.hid h
  have hsd := hm.devs
  have hsp := hm.pts
  have hsc := hm.css
  have hse := hm.efs
  have HM := Lib.hid hm
  simp only at hsd hsp hsc hse
  clear h hm
  unfold Mat.val
  simp only
  go_enter Try.func50, Try.ntmps50
  obtain ⟨bx, hbx⟩ : ∃ bx : Array Value, bx = #[.int .i64 r, .int .i64 wt, .int .i64 bk, .int .i64 cy, .string key, .slice Ad ds.length cd, .slice Ap ps.length cp, .slice Ac cs.length cc, .slice Ae es.length ce] := ⟨_, rfl⟩
  have HQ : Hid (Below w.heap.size w (w.alloc (.cells bx 27)) ∧ Words.Blk (w.alloc (.cells bx 27)) w.heap.size 27 bx) := Lib.hid ⟨(Below.refl _ _).alloc (Nat.le_refl _) _, Words.Blk.new w _ _⟩
  have HBX := Lib.hid hbx
  rw [hbx] at HQ
  clear hbx
  go_wp2_with fail
  go_loopw [8] (fun i wr => ∃ k : Nat, k ≤ cs.length ∧ i = .int .i64 k ∧ Hid (Upto (csP ps.length) cs k) ∧ Hid (Below w.heap.size w wr ∧ Words.Blk wr w.heap.size 27 bx)) (fun i _ => cs.length - (intOf i).toNat)
  case atStart => exact ⟨0, Nat.zero_le _, rfl, Lib.hid (upto_zero _ _), Lib.hid (by have h := HQ.out; rw [HBX.out]; exact h)⟩
  case round =>
    clear HQ
    obtain ⟨k, hk, rfl, HU, HW⟩ := hrel
    by_cases hlt : k < cs.length
    · obtain ⟨x, hx⟩ : ∃ x, cs[k]? = some x := ⟨_, List.getElem?_eq_getElem hlt⟩
      have hzl : w.heap.size < wr.heap.size := HW.out.2.lt
      obtain ⟨b, off, hA, hb, hcell⟩ := row_at (CssAt.below HL.out.2.2.1 HW.out.1).1 hx
      subst hA
      have y0 := hcell 0 _ rfl
      have y1 := hcell 1 _ rfl
      have y2 := hcell 2 _ rfl
      have y3 := hcell 3 _ rfl
      have y4 := hcell 4 _ rfl
      simp only [Nat.add_zero] at y0
      have HX := Lib.hid hx
      have hk1 : (k : Int) < (cs.length : Int) := by omega
      have hk0 : (0 : Int) ≤ (k : Int) := by omega
      clear hx hcell hb
      obtain ⟨xn, xv, xl, xm, xs, xp⟩ := x
      simp only at y0 y1 y2 y3 y4
      have HPT := Lib.hid (HL.out.2.2.1.2 _ (List.mem_of_getElem? HX.out))
      have HPL := Lib.hid (HM.out.cpts _ (List.mem_of_getElem? HX.out))
      obtain ⟨Ai, ci, e, hci, -⟩ := id HPT.out
      simp only at e
      subst e
      have HW1 : Hid (Below w.heap.size w (wr.alloc (.cells #[.string xn, .int .i64 xv, .int .i64 xl, .int .i64 xm, .slice Ai xp.length ci] 42)) ∧ Words.Blk (wr.alloc (.cells #[.string xn, .int .i64 xv, .int .i64 xl, .int .i64 xm, .slice Ai xp.length ci] 42)) w.heap.size 27 bx) := Lib.hid ⟨HW.out.1.alloc HW.out.1.size _, HW.out.2.alloc _⟩
      have z6 : wr.cell? ⟨w.heap.size, 6, none⟩ = some (.slice Ap ps.length cp) := by have := HW.out.2.cell 6; rw [HBX.out] at this; exact this
      have z6' : (wr.alloc (.cells #[.string xn, .int .i64 xv, .int .i64 xl, .int .i64 xm, .slice Ai xp.length ci] 42)).cell? ⟨w.heap.size, 6, none⟩ = some (.slice Ap ps.length cp) := by have := HW1.out.2.cell 6; rw [HBX.out] at this; exact this
      have HN : Hid (¬ csP ps.length k ⟨xn, xv, xl, xm, .slice Ai xp.length ci, xp⟩ → ¬ All (csP ps.length) cs) := Lib.hid (fun hn hp => hn (hp k _ HX.out))
      go_wp2_with fail
      refine (picks_any _ xp _ (NumsAt.below HPT.out HW1.out.1) HPL.out 4 ps.length (by omega) (by omega)).mono ?_
      rintro e w1 ⟨b1, rfl, hb1, hB⟩
      have HW2 : Hid (Below w.heap.size w w1 ∧ Words.Blk w1 w.heap.size 27 bx) := Lib.hid ⟨HW1.out.1.trans (hB.mono HW1.out.1.size), HW1.out.2.below hB HW1.out.2.lt⟩
      obtain ⟨g, hg⟩ : ∃ g, g = wr.heap.size := ⟨_, rfl⟩
      have HG : Hid (Words.Blk w1 g 42 #[.string xn, .int .i64 xv, .int .i64 xl, .int .i64 xm, .slice Ai xp.length ci]) := Lib.hid (by rw [hg]; exact (Words.Blk.new wr _ _).below hB (by simp))
      rw [← hg]
      clear z6 z6' y0 y1 y2 y3 y4 hB HW hg HW1 hzl
      have z1 : w1.cell? ⟨g, 1, none⟩ = some (.int .i64 xv) := HG.out.cell 1
      have z2 : w1.cell? ⟨g, 2, none⟩ = some (.int .i64 xl) := HG.out.cell 2
      have z3 : w1.cell? ⟨g, 3, none⟩ = some (.int .i64 xm) := HG.out.cell 3
      have z4 : w1.cell? ⟨g, 4, none⟩ = some (.slice Ai xp.length ci) := HG.out.cell 4
      have HC := Lib.hid hb1
      clear hb1
      cases b1 with
      | false =>
        have HNO := Lib.hid (HN.out (fun hp => by have := HC.out.2 hp.1; cases this))
        go_wp2_with fail
        go_ret
        exact tells_no HNO.out HW2.out.1
      | true =>
      have C0 := Lib.hid (HC.out.1 rfl)
      clear HC
      go_wp2_with fail
      refine (mwithin_any _ _ _ _).mono ?_
      rintro e w2 ⟨rfl, rfl⟩
      by_cases c1 : 1 ≤ xv ∧ xv ≤ (xp.length : Int)
      case neg =>
        rw [decide_eq_false c1]
        have HNO := Lib.hid (HN.out (fun h => c1 h.2.1))
        clear c1
        go_wp2_with fail
        go_ret
        exact tells_no HNO.out HW2.out.1
      rw [decide_eq_true c1]
      have C1 := Lib.hid c1
      clear c1
      go_wp2_with fail
      refine (mwithin_any _ _ _ _).mono ?_
      rintro e w2 ⟨rfl, rfl⟩
      by_cases c2 : 1 ≤ xl ∧ xl ≤ 6
      case neg =>
        rw [decide_eq_false c2]
        have HNO := Lib.hid (HN.out (fun h => c2 h.2.2.1))
        clear c2
        go_wp2_with fail
        go_ret
        exact tells_no HNO.out HW2.out.1
      rw [decide_eq_true c2]
      have C2 := Lib.hid c2
      clear c2
      go_wp2_with fail
      refine (mwithin64_any _ _ _ _).mono ?_
      rintro e w2 ⟨rfl, rfl⟩
      by_cases c3 : 0 ≤ xm ∧ xm ≤ 100000
      case neg =>
        rw [decide_eq_false c3]
        have HNO := Lib.hid (HN.out (fun h => c3 h.2.2.2))
        clear c3
        go_wp2_with fail
        go_ret
        exact tells_no HNO.out HW2.out.1
      rw [decide_eq_true c3]
      have C3 := Lib.hid c3
      clear c3
      go_wp2_with fail
      go_roundw
      case rel => exact ⟨k + 1, by omega, by go_num, Lib.hid (upto_step HU.out HX.out ⟨C0.out, C1.out, C2.out, C3.out⟩), HW2⟩
      case measure => simp [intOf]; omega
    · have hkl : k = cs.length := by omega
      have HA := Lib.hid (upto_all (by rw [← hkl]; exact HU.out))
      clear hkl
      have hk2 : ¬ (k : Int) < (cs.length : Int) := by omega
      go_wp2_with fail
      go_ret
      exact tells_yes HA.out HW.out.1
end Go.Proofs.Ytbpenoelmangkaa
