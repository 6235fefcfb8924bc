/-
  The program's effects, walked.
-/
import Derived.Test.YtbpenoelmangkaaMatLib7
namespace Go.Proofs.Ytbpenoelmangkaa
open Go.RowKit
set_option maxHeartbeats 4000000 in
set_option maxRecDepth 100000 in
/-- the length apart: Right tests it ahead -/
theorem leffects_any (w : World) (m : Mat) (vd vp vc ve : Value) (h : MatAt w m vd vp vc ve) (hm : MatSmall m) :
    Calls Try.prog 51 #[m.val vd vp vc ve] w (Tells (All (efP m.efs m.devs.length m.css.length) m.efs) w) := by
  obtain ⟨r, wt, bk, cy, key, ds, ps, cs, es⟩ := m
  obtain ⟨Ad, cd, e, hcd, -⟩ := id h.1
  simp only at e
  subst e
  obtain ⟨Ap, cp, e, hcp, -⟩ := id h.2.1
  simp only at e
  subst e
  obtain ⟨Ac, cc, e, hcc, -⟩ := id h.2.2.1.1
  simp only at e
  subst e
  obtain ⟨Ae, ce, e, hce, -⟩ := id h.2.2.2.1
  simp only at e
  subst e
  have HL := Lib.hid h
  have hsd := hm.devs
  have hsp := hm.pts
  have hsc := hm.css
  have hse := hm.efs
  have HM := Lib.hid hm
  simp only at hsd hsp hsc hse
  clear h hm
  unfold Mat.val
  simp only
  go_enter Try.func51, Try.ntmps51
  obtain ⟨bx, hbx⟩ : ∃ bx : Array Value, bx = #[.int .i64 r, .int .i64 wt, .int .i64 bk, .int .i64 cy, .string key, .slice Ad ds.length cd, .slice Ap ps.length cp, .slice Ac cs.length cc, .slice Ae es.length ce] := ⟨_, rfl⟩
  have HQ : Hid (Below w.heap.size w (w.alloc (.cells bx 27)) ∧ Words.Blk (w.alloc (.cells bx 27)) w.heap.size 27 bx) := Lib.hid ⟨(Below.refl _ _).alloc (Nat.le_refl _) _, Words.Blk.new w _ _⟩
  have HBX := Lib.hid hbx
  rw [hbx] at HQ
  clear hbx
  go_wp2_with fail
  go_loopw [8] (fun i wr => ∃ k : Nat, k ≤ es.length ∧ i = .int .i64 k ∧ Hid (Upto (fun _ e => (0 ≤ e.dev ∧ e.dev < (ds.length : Int)) ∧ (0 ≤ e.place ∧ e.place ≤ 255) ∧ (0 ≤ e.safe ∧ e.safe ≤ 1) ∧ someP e.cs 8 cs.length) es k) ∧ Hid (Below w.heap.size w wr ∧ Words.Blk wr w.heap.size 27 bx)) (fun i _ => es.length - (intOf i).toNat)
  case atStart => exact ⟨0, Nat.zero_le _, rfl, Lib.hid (upto_zero _ _), Lib.hid (by have h := HQ.out; rw [HBX.out]; exact h)⟩
  case round =>
    clear HQ
    obtain ⟨k, hk, rfl, HU, HW⟩ := hrel
    by_cases hlt : k < es.length
    · obtain ⟨x, hx⟩ : ∃ x, es[k]? = some x := ⟨_, List.getElem?_eq_getElem hlt⟩
      have hzl : w.heap.size < wr.heap.size := HW.out.2.lt
      obtain ⟨b, off, hA, hb, hcell⟩ := row_at (EfsAt.below HL.out.2.2.2 HW.out.1).1 hx
      subst hA
      have y0 := hcell 0 _ rfl
      have y1 := hcell 1 _ rfl
      have y2 := hcell 2 _ rfl
      have y3 := hcell 3 _ rfl
      have y4 := hcell 4 _ rfl
      simp only [Nat.add_zero] at y0
      have HX := Lib.hid hx
      have hk1 : (k : Int) < (es.length : Int) := by omega
      have hk0 : (0 : Int) ≤ (k : Int) := by omega
      clear hx hcell hb
      obtain ⟨xn, xd, xp, xt, xs, xc⟩ := x
      simp only at y0 y1 y2 y3 y4
      have HPT := Lib.hid (HL.out.2.2.2.2 _ (List.mem_of_getElem? HX.out))
      have HPL := Lib.hid (HM.out.ecs _ (List.mem_of_getElem? HX.out))
      obtain ⟨Ai, ci, e, hci, -⟩ := id HPT.out
      simp only at e
      subst e
      have HW1 : Hid (Below w.heap.size w (wr.alloc (.cells #[.string xn, .int .i64 xd, .int .i64 xp, .int .i64 xt, .slice Ai xc.length ci] 39)) ∧ Words.Blk (wr.alloc (.cells #[.string xn, .int .i64 xd, .int .i64 xp, .int .i64 xt, .slice Ai xc.length ci] 39)) w.heap.size 27 bx) := Lib.hid ⟨HW.out.1.alloc HW.out.1.size _, HW.out.2.alloc _⟩
      have HBE : Hid (Words.Blk (wr.alloc (.cells #[.string xn, .int .i64 xd, .int .i64 xp, .int .i64 xt, .slice Ai xc.length ci] 39)) wr.heap.size 39 #[.string xn, .int .i64 xd, .int .i64 xp, .int .i64 xt, .slice Ai xc.length ci]) := Lib.hid (Words.Blk.new wr _ _)
      have z5 : wr.cell? ⟨w.heap.size, 5, none⟩ = some (.slice Ad ds.length cd) := by have := HW.out.2.cell 5; rw [HBX.out] at this; exact this
      have z5' : (wr.alloc (.cells #[.string xn, .int .i64 xd, .int .i64 xp, .int .i64 xt, .slice Ai xc.length ci] 39)).cell? ⟨w.heap.size, 5, none⟩ = some (.slice Ad ds.length cd) := by have := HW1.out.2.cell 5; rw [HBX.out] at this; exact this
      have z7 : wr.cell? ⟨w.heap.size, 7, none⟩ = some (.slice Ac cs.length cc) := by have := HW.out.2.cell 7; rw [HBX.out] at this; exact this
      have z7' : (wr.alloc (.cells #[.string xn, .int .i64 xd, .int .i64 xp, .int .i64 xt, .slice Ai xc.length ci] 39)).cell? ⟨w.heap.size, 7, none⟩ = some (.slice Ac cs.length cc) := by have := HW1.out.2.cell 7; rw [HBX.out] at this; exact this
      have HN : Hid (¬ ((0 ≤ xd ∧ xd < (ds.length : Int)) ∧ (0 ≤ xp ∧ xp ≤ 255) ∧ (0 ≤ xt ∧ xt ≤ 1) ∧ someP xc 8 cs.length) → ¬ All (efP es ds.length cs.length) es) := Lib.hid (fun hn hp => hn (by have h := hp k _ HX.out; exact ⟨h.1, h.2.1, h.2.2.1, h.2.2.2.1⟩))
      go_wp2_with fail
      refine (mwithin_any _ _ _ _).mono ?_
      rintro e w2 ⟨rfl, rfl⟩
      by_cases c1 : 0 ≤ xd ∧ xd ≤ (ds.length : Int) - 1
      case neg =>
        rw [decide_eq_false c1]
        have HNO := Lib.hid (HN.out (fun h => c1 (by have := h.1; omega)))
        clear c1
        go_wp2_with fail
        go_ret
        exact tells_no HNO.out HW1.out.1
      rw [decide_eq_true c1]
      have C1 := Lib.hid c1
      clear c1
      go_wp2_with fail
      refine (mwithin_any _ _ _ _).mono ?_
      rintro e w2 ⟨rfl, rfl⟩
      by_cases c2 : 0 ≤ xp ∧ xp ≤ 255
      case neg =>
        rw [decide_eq_false c2]
        have HNO := Lib.hid (HN.out (fun h => c2 h.2.1))
        clear c2
        go_wp2_with fail
        go_ret
        exact tells_no HNO.out HW1.out.1
      rw [decide_eq_true c2]
      have C2 := Lib.hid c2
      clear c2
      go_wp2_with fail
      refine (mwithin_any _ _ _ _).mono ?_
      rintro e w2 ⟨rfl, rfl⟩
      by_cases c3 : 0 ≤ xt ∧ xt ≤ 1
      case neg =>
        rw [decide_eq_false c3]
        have HNO := Lib.hid (HN.out (fun h => c3 h.2.2.1))
        clear c3
        go_wp2_with fail
        go_ret
        exact tells_no HNO.out HW1.out.1
      rw [decide_eq_true c3]
      have C3 := Lib.hid c3
      clear c3
      go_wp2_with fail
      refine (picks_any _ xc _ (NumsAt.below HPT.out HW1.out.1) HPL.out 8 cs.length (by omega) (by omega)).mono ?_
      rintro e w1 ⟨b1, rfl, hb1, hB⟩
      have HW2 : Hid (Below w.heap.size w w1 ∧ Words.Blk w1 w.heap.size 27 bx) := Lib.hid ⟨HW1.out.1.trans (hB.mono HW1.out.1.size), HW1.out.2.below hB HW1.out.2.lt⟩
      clear z5 z5' z7 z7' y0 y1 y2 y3 y4 hB HW hzl
      have HC := Lib.hid hb1
      clear hb1
      cases b1 with
      | false =>
        have HNO := Lib.hid (HN.out (fun hp => by have := HC.out.2 hp.2.2.2; cases this))
        go_wp2_with fail
        go_ret
        exact tells_no HNO.out HW2.out.1
      | true =>
      have C4 := Lib.hid (HC.out.1 rfl)
      clear HC
      go_wp2_with fail
      go_roundw
      case rel => exact ⟨k + 1, by omega, by go_num, Lib.hid (upto_step HU.out HX.out ⟨⟨C1.out.1, (by have := C1.out.2; omega : xd < (ds.length : Int))⟩, C2.out, C3.out, C4.out⟩), HW2⟩
      case measure => simp [intOf]; omega
    · have hkl : k = es.length := by omega
      have HA := Lib.hid (upto_all (by rw [← hkl]; exact HU.out))
      clear hkl
      have hk2 : ¬ (k : Int) < (es.length : Int) := by omega
      have z : wr.cell? ⟨w.heap.size, 8, none⟩ = some (.slice Ae es.length ce) := by have := HW.out.2.cell 8; rw [HBX.out] at this; exact this
      go_wp2_with fail
      refine (twinsE_any wr es _ (EfsAt.below HL.out.2.2.2 HW.out.1) hse).mono ?_
      rintro e w3 ⟨b, rfl, hb, hB⟩
      have HB := Lib.hid (HW.out.1.trans (hB.mono HW.out.1.size))
      have HS : Hid ((!b) = true ↔ All (efP es ds.length cs.length) es) := Lib.hid (by
        have h2 := HA.out
        constructor
        · intro hn
          have hb' : ¬ b = true := by cases b <;> simp at hn ⊢
          have h4 := Classical.not_not.1 (fun n => hb' (hb.2 n))
          exact fun i y hy => by have h := h2 i y hy; exact ⟨h.1, h.2.1, h.2.2.1, h.2.2.2, h4 i y hy⟩
        · intro hp
          cases b with
          | false => rfl
          | true => exact absurd (fun i y hy => (hp i y hy).2.2.2.2) (hb.1 rfl))
      clear hb hB
      go_wp2_with fail
      go_ret
      exact ⟨_, rfl, HS.out, HB.out⟩
end Go.Proofs.Ytbpenoelmangkaa
