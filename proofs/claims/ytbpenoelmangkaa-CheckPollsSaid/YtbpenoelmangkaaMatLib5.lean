/-
  The program's devices, walked.
-/
import Derived.Test.YtbpenoelmangkaaMatLib4
namespace Go.Proofs.Ytbpenoelmangkaa
open Go.RowKit
set_option maxHeartbeats 4000000 in
set_option maxRecDepth 100000 in
/-- the length apart: Right tests it ahead -/
theorem ldevices_any (w : World) (m : Mat) (vd vp vc ve : Value) (h : MatAt w m vd vp vc ve) (hm : MatSmall m) :
    Calls Try.prog 48 #[m.val vd vp vc ve] w (Tells (All (devP m.devs) m.devs) w) := by
  obtain ⟨r, wt, bk, cy, key, ds, ps, cs, es⟩ := m
  obtain ⟨Ad, cd, e, hcd, -⟩ := id h.1
  simp only at e
  subst e
  obtain ⟨Ap, cp, e, hcp, -⟩ := id h.2.1
  simp only at e
  subst e
  obtain ⟨Ac, cc, e, hcc, -⟩ := id h.2.2.1.1
  simp only at e
  subst e
  obtain ⟨Ae, ce, e, hce, -⟩ := id h.2.2.2.1
  simp only at e
  subst e
  have HL := Lib.hid h
  have hsd := hm.devs
  have hsp := hm.pts
  have hsc := hm.css
  have hse := hm.efs
  have HM := Lib.hid hm
  simp only at hsd hsp hsc hse
  clear h hm
  unfold Mat.val
  simp only
  go_enter Try.func48, Try.ntmps48
  obtain ⟨bx, hbx⟩ : ∃ bx : Array Value, bx = #[.int .i64 r, .int .i64 wt, .int .i64 bk, .int .i64 cy, .string key, .slice Ad ds.length cd, .slice Ap ps.length cp, .slice Ac cs.length cc, .slice Ae es.length ce] := ⟨_, rfl⟩
  have HQ : Hid (Below w.heap.size w (w.alloc (.cells bx 27)) ∧ Words.Blk (w.alloc (.cells bx 27)) w.heap.size 27 bx) := Lib.hid ⟨(Below.refl _ _).alloc (Nat.le_refl _) _, Words.Blk.new w _ _⟩
  have HBX := Lib.hid hbx
  rw [hbx] at HQ
  clear hbx
  go_wp2_with fail
  go_loopw [8] (fun i wr => ∃ k : Nat, k ≤ ds.length ∧ i = .int .i64 k ∧ Hid (Upto (fun _ d => (0 ≤ d.line ∧ d.line ≤ 3) ∧ (1 ≤ d.unit ∧ d.unit ≤ 247)) ds k) ∧ Hid (Below w.heap.size w wr ∧ Words.Blk wr w.heap.size 27 bx)) (fun i _ => ds.length - (intOf i).toNat)
  case atStart => exact ⟨0, Nat.zero_le _, rfl, Lib.hid (upto_zero _ _), Lib.hid (by have h := HQ.out; rw [HBX.out]; exact h)⟩
  case round =>
    clear HQ
    obtain ⟨k, hk, rfl, HU, HW⟩ := hrel
    by_cases hlt : k < ds.length
    · obtain ⟨x, hx⟩ : ∃ x, ds[k]? = some x := ⟨_, List.getElem?_eq_getElem hlt⟩
      obtain ⟨b, off, hA, hb, hcell⟩ := row_at (LawFrame.RowsAt.below HL.out.1 HW.out.1) hx
      subst hA
      have y0 := hcell 0 _ rfl
      have y1 := hcell 1 _ rfl
      have y2 := hcell 2 _ rfl
      simp only [Nat.add_zero] at y0
      have HX := Lib.hid hx
      have hk1 : (k : Int) < (ds.length : Int) := by omega
      have hk0 : (0 : Int) ≤ (k : Int) := by omega
      clear hx hcell hb
      obtain ⟨xn, xl, xu⟩ := x
      simp only at y0 y1 y2
      have HW1 : Hid (Below w.heap.size w (wr.alloc (.cells #[.string xn, .int .i64 xl, .int .i64 xu] 54)) ∧ Words.Blk (wr.alloc (.cells #[.string xn, .int .i64 xl, .int .i64 xu] 54)) w.heap.size 27 bx) := Lib.hid ⟨HW.out.1.alloc HW.out.1.size _, HW.out.2.alloc _⟩
      have HN : Hid (¬ ((0 ≤ xl ∧ xl ≤ 3) ∧ (1 ≤ xu ∧ xu ≤ 247)) → ¬ All (devP ds) ds) := Lib.hid (fun hn hp => hn ⟨(hp k _ HX.out).1, (hp k _ HX.out).2.1⟩)
      go_wp2_with fail
      refine (mwithin_any _ _ _ _).mono ?_
      rintro e w2 ⟨rfl, rfl⟩
      by_cases c1 : 0 ≤ xl ∧ xl ≤ 3
      case neg =>
        rw [decide_eq_false c1]
        have HNO := Lib.hid (HN.out (fun h => c1 h.1))
        clear c1
        go_wp2_with fail
        go_ret
        exact tells_no HNO.out HW1.out.1
      rw [decide_eq_true c1]
      have C1 := Lib.hid c1
      clear c1
      go_wp2_with fail
      refine (mwithin_any _ _ _ _).mono ?_
      rintro e w2 ⟨rfl, rfl⟩
      by_cases c2 : 1 ≤ xu ∧ xu ≤ 247
      case neg =>
        rw [decide_eq_false c2]
        have HNO := Lib.hid (HN.out (fun h => c2 h.2))
        clear c2
        go_wp2_with fail
        go_ret
        exact tells_no HNO.out HW1.out.1
      rw [decide_eq_true c2]
      have C2 := Lib.hid c2
      clear c2
      go_wp2_with fail
      go_roundw
      case rel => exact ⟨k + 1, by omega, by go_num, Lib.hid (upto_step HU.out HX.out ⟨C1.out, C2.out⟩), HW1⟩
      case measure => simp [intOf]; omega
    · have hkl : k = ds.length := by omega
      have HA := Lib.hid (upto_all (by rw [← hkl]; exact HU.out))
      clear hkl
      have hk2 : ¬ (k : Int) < (ds.length : Int) := by omega
      have z : wr.cell? ⟨w.heap.size, 5, none⟩ = some (.slice Ad ds.length cd) := by have := HW.out.2.cell 5; rw [HBX.out] at this; exact this
      go_wp2_with fail
      refine (twinsD_any wr ds _ (LawFrame.RowsAt.below HL.out.1 HW.out.1) hsd).mono ?_
      rintro e w3 ⟨b, rfl, hb, hB⟩
      have HB := Lib.hid (HW.out.1.trans (hB.mono HW.out.1.size))
      have HS : Hid ((!b) = true ↔ All (devP ds) ds) := Lib.hid (by
        have h2 := HA.out
        constructor
        · intro hn
          have hb' : ¬ b = true := by cases b <;> simp at hn ⊢
          have h4 := Classical.not_not.1 (fun n => hb' (hb.2 n))
          exact fun i y hy => ⟨(h2 i y hy).1, (h2 i y hy).2, h4 i y hy⟩
        · intro hp
          cases b with
          | false => rfl
          | true => exact absurd (fun i y hy => (hp i y hy).2.2) (hb.1 rfl))
      clear hb hB
      go_wp2_with fail
      go_ret
      exact ⟨_, rfl, HS.out, HB.out⟩
end Go.Proofs.Ytbpenoelmangkaa
