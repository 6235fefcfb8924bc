/-
  check: Polls, walked.
-/
import Derived.Test.YtbpenoelmangkaaChkBound
namespace Go.Proofs.Ytbpenoelmangkaa
open Go.RowKit
structure Pl where
  dev : Int
  frm : Int
  many : Int
def Pl.cells (x : Pl) : List Value := [.int .i64 x.dev, .int .i64 x.frm, .int .i64 x.many]
theorem Pl.cells_len (x : Pl) : x.cells.length = 3 := rfl
def PlsAt (w : World) (l : List Pl) (v : Value) : Prop := LawFrame.RowsAt w 3 Pl.cells l v
theorem poll_info : (Try.prog.info? 33).map (fun i => (i.zero, i.size, i.bytes)) = some (some (.agg #[.int .i64 0, .int .i64 0, .int .i64 0]), 3, 24) := by kernel_rfl
theorem poll_parts : ∃ i, Try.prog.info? 33 = some i ∧ i.zero = some (.agg #[.int .i64 0, .int .i64 0, .int .i64 0]) ∧ i.size = 3 ∧ i.bytes = 24 := by
  have h := poll_info
  cases e : Try.prog.info? 33 with
  | none => rw [e] at h; cases h
  | some i =>
    rw [e] at h
    simp only [Option.map_some, Option.some.injEq, Prod.mk.injEq] at h
    exact ⟨i, rfl, h.1, h.2.1, h.2.2⟩
def placeOf (ps : List Pt) (i : Int) : Int := match ps[i.toNat]? with | some p => p.place | none => 0
theorem placeOf_of {ps : List Pt} {k : Nat} {p : Pt} (h : ps[k]? = some p) : placeOf ps (k : Int) = p.place := by
  unfold placeOf
  rw [Int.toNat_natCast, h]
def loOf (ps : List Pt) (a : Int) (l : List Int) : Int := l.foldl (fun a i => min a (placeOf ps i)) a
def hiOf (ps : List Pt) (a : Int) (l : List Int) : Int := l.foldl (fun a i => max a (placeOf ps i)) a
theorem loOf_next {ps : List Pt} {a : Int} {l : List Int} {k : Nat} {i : Int} (h : l[k]? = some i) : loOf ps a (l.take (k + 1)) = min (loOf ps a (l.take k)) (placeOf ps i) := by
  unfold loOf
  rw [List.take_add_one, h]
  simp [List.foldl_append]
theorem hiOf_next {ps : List Pt} {a : Int} {l : List Int} {k : Nat} {i : Int} (h : l[k]? = some i) : hiOf ps a (l.take (k + 1)) = max (hiOf ps a (l.take k)) (placeOf ps i) := by
  unfold hiOf
  rw [List.take_add_one, h]
  simp [List.foldl_append]
/-- the points of a device -/
def ofDev (m : Mat) (d : Int) : List Int := ids (fun x : Pt => x.dev == d) m.pts
def pollAt (m : Mat) (d : Nat) : Option Pl := match ofDev m d with
  | [] => none
  | i :: l => some ⟨d, loOf m.pts (placeOf m.pts i) (i :: l), hiOf m.pts (placeOf m.pts i) (i :: l) - loOf m.pts (placeOf m.pts i) (i :: l) + 1⟩
def pollsUpto (m : Mat) (k : Nat) : List Pl := (List.range k).filterMap (pollAt m)
def pollsF (m : Mat) : List Pl := pollsUpto m m.devs.length
theorem pollsUpto_no {m : Mat} {k : Nat} (h : pollAt m k = none) : pollsUpto m (k + 1) = pollsUpto m k := by
  unfold pollsUpto
  rw [List.range_succ, List.filterMap_append]
  simp [h]
theorem pollsUpto_yes {m : Mat} {k : Nat} {x : Pl} (h : pollAt m k = some x) : pollsUpto m (k + 1) = pollsUpto m k ++ [x] := by
  unfold pollsUpto
  rw [List.range_succ, List.filterMap_append]
  simp [h]
/-- the points of a device are there -/
theorem ofDev_pt {m : Mat} (hr : RightP m) {d i : Int} (hi : i ∈ ofDev m d) : ∃ (k : Nat) (p : Pt), i = (k : Int) ∧ m.pts[k]? = some p ∧ p.dev = d ∧ 0 ≤ p.place ∧ p.place ≤ 255 := by
  obtain ⟨k, p, h1, h2, h3⟩ := mem_ids.1 hi
  obtain ⟨-, h4, -⟩ := hr.2.2.2.1.2 k p h2
  exact ⟨k, p, h1, h2, by simpa using h3, h4.1, h4.2⟩
/-- the polls that are gathered lie at vo, beside the matrix's own cells -/
def PollIs (W0 : World) (bx : Array Value) (l : List Pl) (n : Nat) (vo : Value) (wr : World) : Prop :=
  n = l.length ∧ wr.ownsRow W0.heap.size 33 3 vo n (l.flatMap Pl.cells) ∧ Below W0.heap.size W0 wr ∧ Words.Blk wr W0.heap.size 27 bx
theorem PollIs.app {W0 wr w2 : World} {n : Nat} {bx : Array Value} {l l' : List Pl} {x : Pl} {vo v' : Value} {ob : Obj} (h : PollIs W0 bx l n vo wr)
    (ho : w2.ownsRow W0.heap.size 33 3 v' (n + 1) (l.flatMap Pl.cells ++ Pl.cells x)) (hg : (wr.alloc ob).grownBy w2 vo.ownBlock) (hl : l' = l ++ [x]) : PollIs W0 bx l' (n + 1) v' w2 := by
  subst hl
  refine ⟨by simp [h.1], by simpa using ho, (h.2.2.1.alloc h.2.2.1.size ob).grown hg (by have := h.2.2.1.size; simp; omega) (fun k hk => (h.2.1.lt k hk).1), (h.2.2.2.alloc ob).grown hg (fun e => Words.own_blk_ne h.2.1 h.2.2.2 (by decide) e.symm)⟩
theorem PollIs.below {W0 wr w2 : World} {n : Nat} {bx : Array Value} {l : List Pl} {vo : Value} (h : PollIs W0 bx l n vo wr) (hb : Below wr.heap.size wr w2) : PollIs W0 bx l n vo w2 :=
  ⟨h.1, own_below h.2.1 hb, h.2.2.1.trans (hb.mono h.2.2.1.size), h.2.2.2.below hb h.2.2.2.lt⟩
theorem PollIs.box {W0 wr : World} {n : Nat} {bx : Array Value} {l : List Pl} {vo : Value} (h : PollIs W0 bx l n vo wr) (ob : Obj) : PollIs W0 bx l n vo (wr.alloc ob) :=
  h.below ((Below.refl _ _).alloc (Nat.le_refl _) ob)
theorem PollIs.ends {W0 wr : World} {n : Nat} {bx : Array Value} {l : List Pl} {vo : Value} (h : PollIs W0 bx l n vo wr) : PlsAt wr l vo := LawFrame.RowsAt.of_own Pl.cells_len (by decide) h.2.1
theorem reads_poll (w : World) (g : Nat) (hg : w.heap.size = g) (x : Pl) (t : TypeId) : Words.Reads (w.alloc (.cells #[.int .i64 x.dev, .int .i64 x.frm, .int .i64 x.many] t)) (g + 1) 3 (some ⟨g, 0, none⟩) 1 x.cells := by
  subst hg
  exact LawFrame.reads_block (xs := x.cells) (t := t) (heap_alloc_new w _) (by omega) rfl
theorem one_poll (x : Pl) : ∀ u ∈ x.cells, u.oneCell' = true := by
  intro u hu
  simp only [Pl.cells, List.mem_cons, List.not_mem_nil, or_false] at hu
  rcases hu with rfl | rfl | rfl <;> rfl
def PollsIs (m : Mat) (w : World) (e : Ending) (w' : World) : Prop := ∃ v, e = .returned v ∧ (RightP m → PlsAt w' (pollsF m) v) ∧ (¬ RightP m → PlsAt w' [] v) ∧ Below w.heap.size w w'
theorem pollsUpto_len (m : Mat) (k : Nat) : (pollsUpto m k).length ≤ k := by
  unfold pollsUpto
  exact Nat.le_trans (List.length_filterMap_le _ _) (by simp)
set_option maxHeartbeats 4000000 in
set_option maxRecDepth 100000 in
theorem polls_any (w : World) (m : Mat) (vd vp vc ve : Value) (h : MatAt w m vd vp vc ve) (hm : MatSmall m) :
    Calls Try.prog 10 #[m.val vd vp vc ve] w (PollsIs m w) := by
  obtain ⟨i0, hi0, hz0, hz1, hz2⟩ := poll_parts
  obtain ⟨r, wt, bk, cy, key, ds, ps, cs, es⟩ := m
  obtain ⟨Ad, cd, e, hcd, -⟩ := id h.1
  simp only at e
  subst e
  obtain ⟨Ap, cp, e, hcp, -⟩ := id h.2.1
  simp only at e
  subst e
  obtain ⟨Ac, cc, e, hcc, -⟩ := id h.2.2.1.1
  simp only at e
  subst e
  obtain ⟨Ae, ce, e, hce, -⟩ := id h.2.2.2.1
  simp only at e
  subst e
  have HL := Lib.hid h
  have HM := Lib.hid hm
  clear h hm
  unfold Mat.val
  simp only
  have HQ : Hid (Below w.heap.size w (w.alloc (.cells #[.int .i64 r, .int .i64 wt, .int .i64 bk, .int .i64 cy, .string key, .slice Ad ds.length cd, .slice Ap ps.length cp, .slice Ac cs.length cc, .slice Ae es.length ce] 27)) ∧ Words.Blk (w.alloc (.cells #[.int .i64 r, .int .i64 wt, .int .i64 bk, .int .i64 cy, .string key, .slice Ad ds.length cd, .slice Ap ps.length cp, .slice Ac cs.length cc, .slice Ae es.length ce] 27)) w.heap.size 27 #[.int .i64 r, .int .i64 wt, .int .i64 bk, .int .i64 cy, .string key, .slice Ad ds.length cd, .slice Ap ps.length cp, .slice Ac cs.length cc, .slice Ae es.length ce]) := Lib.hid ⟨(Below.refl _ _).alloc (Nat.le_refl _) _, Words.Blk.new w _ _⟩
  go_enter Try.func10, Try.ntmps10
  go_wp2_with fail
  refine (lRight_any _ ⟨r, wt, bk, cy, key, ds, ps, cs, es⟩ _ _ _ _ (MatAt.below HL.out HQ.out.1) HM.out).mono ?_
  rintro e w1 ⟨b1, rfl, hb1, hB⟩
  have HQ : Hid (Below w.heap.size w w1 ∧ Words.Blk w1 w.heap.size 27 #[.int .i64 r, .int .i64 wt, .int .i64 bk, .int .i64 cy, .string key, .slice Ad ds.length cd, .slice Ap ps.length cp, .slice Ac cs.length cc, .slice Ae es.length ce]) := Lib.hid ⟨HQ.out.1.trans (hB.mono HQ.out.1.size), HQ.out.2.below hB HQ.out.2.lt⟩
  have HC := Lib.hid hb1
  clear hb1 hB
  cases b1 with
  | false =>
    have HNO : Hid (¬ RightP ⟨r, wt, bk, cy, key, ds, ps, cs, es⟩) := Lib.hid (fun hp => by have := HC.out.2 hp; cases this)
    clear HC
    go_wp2_with fail
    go_ret
    exact ⟨_, rfl, fun hp => absurd hp HNO.out, fun _ => LawFrame.RowsAt.nil _ _ _, HQ.out.1⟩
  | true =>
  have hr := HC.out.1 rfl
  have hsd : ds.length ≤ 4 := hr.2.2.1.1
  have hsp : ps.length ≤ 16 := hr.2.2.2.1.1
  have hsc : cs.length ≤ 8 := hr.2.2.2.2.1.1
  have hse : es.length ≤ 8 := hr.2.2.2.2.2.1.1
  have HR := Lib.hid hr
  clear HC hr
  obtain ⟨m, hmm⟩ : ∃ m, m = Mat.mk r wt bk cy key ds ps cs es := ⟨_, rfl⟩
  have HMM := Lib.hid hmm
  have HI0 : Hid (PollIs w #[.int .i64 r, .int .i64 wt, .int .i64 bk, .int .i64 cy, .string key, .slice Ad ds.length cd, .slice Ap ps.length cp, .slice Ac cs.length cc, .slice Ae es.length ce] (pollsUpto m 0) 0 (.slice none 0 0) w1) := Lib.hid ⟨rfl, World.ownsRow_nil _ _ _ _, HQ.out.1, HQ.out.2⟩
  rw [← hmm] at HR ⊢
  clear hmm
  have z5 : w1.cell? ⟨w.heap.size, 5, none⟩ = some (.slice Ad ds.length cd) := HQ.out.2.cell 5
  go_wp2_with fail
  clear z5 HQ
  go_loopw [3, 16] (fun o i wr => ∃ k n : Nat, k ≤ ds.length ∧ i = .int .i64 k ∧ Hid (PollIs w #[.int .i64 r, .int .i64 wt, .int .i64 bk, .int .i64 cy, .string key, .slice Ad ds.length cd, .slice Ap ps.length cp, .slice Ac cs.length cc, .slice Ae es.length ce] (pollsUpto m k) n o wr)) (fun _ i _ => ds.length - (intOf i).toNat)
  case atStart => exact ⟨0, 0, Nat.zero_le _, rfl, HI0⟩
  case round =>
    clear HI0
    obtain ⟨k, n, hk, rfl, HI⟩ := hrel
    have hn : n ≤ k := by have := HI.out.1; have h2 := pollsUpto_len m k; omega
    have hk0 : (0 : Int) ≤ (k : Int) := by omega
    by_cases hlt : k < ds.length
    · have hk1 : (k : Int) < (ds.length : Int) := by omega
      have HIa := Lib.hid (HI.out.box (.cells #[.int .i64 (k : Int)] 3))
      have HBX := Lib.hid (Words.Blk.new wr 3 #[.int .i64 (k : Int)])
      have z6 : (wr.alloc (.cells #[.int .i64 (k : Int)] 3)).cell? ⟨w.heap.size, 6, none⟩ = some (.slice Ap ps.length cp) := HIa.out.2.2.2.cell 6
      clear HI
      go_wp2_with fail
      refine (pickP_any _ ps _ (LawFrame.RowsAt.below HL.out.2.1 HIa.out.2.2.1) (by omega) wr.heap.size (k : Int) HBX.out).mono ?_
      rintro e w2 ⟨v, rfl, hv, hB⟩
      have HI := Lib.hid (HIa.out.below hB)
      obtain ⟨q, hq⟩ : ∃ q, q = wr.heap.size := ⟨_, rfl⟩
      have HBQ : Hid (Words.Blk w2 q 3 #[.int .i64 (k : Int)]) := Lib.hid (by rw [hq]; exact HBX.out.below hB HBX.out.lt)
      rw [← hq]
      obtain ⟨L, hL⟩ : ∃ L, L = ofDev m (k : Int) := ⟨_, rfl⟩
      have HV : Hid (NumsAt w2 L v) := Lib.hid (by rw [hL, HMM.out]; exact hv)
      have hLl : L.length ≤ 16 := by
        have h1 : L.length ≤ m.pts.length := by rw [hL]; exact idsUpto_len _ _ _
        rw [show m.pts = ps by rw [HMM.out]] at h1
        omega
      have HLP : Hid (∀ i ∈ L, ∃ (j : Nat) (p : Pt), i = (j : Int) ∧ ps[j]? = some p ∧ 0 ≤ p.place ∧ p.place ≤ 255) := Lib.hid (fun i hi => by
        rw [hL] at hi
        obtain ⟨j, p, h1, h2, -, h3⟩ := ofDev_pt HR.out hi
        exact ⟨j, p, h1, by rw [HMM.out] at h2; exact h2, h3⟩)
      have HLL := Lib.hid hL
      clear hv hB HIa HBX z6 hq hL
      obtain ⟨A, cA, e, hcA, -⟩ := id HV.out
      subst e
      cases L with
      | nil =>
        have HI2 : Hid (PollIs w #[.int .i64 r, .int .i64 wt, .int .i64 bk, .int .i64 cy, .string key, .slice Ad ds.length cd, .slice Ap ps.length cp, .slice Ac cs.length cc, .slice Ae es.length ce] (pollsUpto m (k + 1)) n u3 w2) := Lib.hid (by
          rw [pollsUpto_no (by unfold pollAt; rw [← HLL.out])]
          exact HI.out)
        clear HI HV HLP HLL HBQ
        go_wp2_with fail
        go_roundw
        case rel => exact ⟨k + 1, n, by omega, by go_num, HI2⟩
        case measure => simp [intOf]; omega
      | cons i0 L0 =>
      obtain ⟨L, hL⟩ : ∃ L, L = i0 :: L0 := ⟨_, rfl⟩
      have h0 : L[0]? = some i0 := by rw [hL]; rfl
      have HPA : Hid (pollAt m k = some ⟨(k : Int), loOf ps (placeOf ps i0) L, hiOf ps (placeOf ps i0) L - loOf ps (placeOf ps i0) L + 1⟩) := Lib.hid (by
        have h1 := HLL.out
        unfold pollAt
        rw [← h1, hL, show m.pts = ps by rw [HMM.out]])
      rw [← hL] at HV HLP hLl hcA ⊢
      have hLn : 0 < (L.length : Int) := by rw [hL]; simp only [List.length_cons]; omega
      clear hL HLL
      obtain ⟨bL, offL, hA, hcell⟩ := one_at HV.out h0
      subst hA
      have y0 := hcell _ rfl
      simp only [Nat.add_zero] at y0
      obtain ⟨j, p, hij, hp, hp0, hp1⟩ := HLP.out i0 (List.mem_of_getElem? h0)
      subst hij
      obtain ⟨b1, off1, hA, hb, hcell2⟩ := row_at (LawFrame.RowsAt.below HL.out.2.1 HI.out.2.2.1) hp
      subst hA
      have HP0 := Lib.hid (placeOf_of hp)
      obtain ⟨p0, p1, p2, p3, p4, p5⟩ := p
      have q0 := hcell2 0 _ rfl
      have q1 := hcell2 1 _ rfl
      have q2 := hcell2 2 _ rfl
      have q3 := hcell2 3 _ rfl
      have q4 := hcell2 4 _ rfl
      have q5 := hcell2 5 _ rfl
      simp only [Nat.add_zero] at q0 q1 q2 q3 q4 q5 hp0 hp1
      have hjl : j < ps.length := (List.getElem?_eq_some_iff.1 hp).1
      have hj1 : (j : Int) < (ps.length : Int) := by omega
      have hj0 : (0 : Int) ≤ (j : Int) := by omega
      have hlen : ((L.length : Int) == 0) = false := by rw [beq_eq_false_iff_ne]; omega
      have z6 : w2.cell? ⟨w.heap.size, 6, none⟩ = some (.slice (some ⟨b1, off1, none⟩) ps.length cp) := HI.out.2.2.2.cell 6
      clear hcell hcell2 hb hp h0
      go_upto_region 9 with fail
      go_quiet (fail)
      have HW := Lib.hid (below_drewn (Below.refl w2.heap.size w2) nq)
      clear y0 q0 q1 q2 q3 q4 q5 z6
      generalize w2.drewN nq = wa at *
      have HI := Lib.hid (HI.out.below HW.out)
      have HV := Lib.hid (NumsAt.below HV.out HW.out)
      have HBQ := Lib.hid (HBQ.out.below HW.out HBQ.out.lt)
      clear HW
      go_wp2_with fail
      go_loopw [6, 7, 44] (fun f t i wx => ∃ (c : Nat) (F T : Int), c ≤ L.length ∧ i = .int .i64 c ∧ f = .int .i64 F ∧ t = .int .i64 T ∧ (0 ≤ F ∧ F ≤ 255 ∧ 0 ≤ T ∧ T ≤ 255) ∧ Hid (F = loOf ps (placeOf ps (j : Int)) (L.take c) ∧ T = hiOf ps (placeOf ps (j : Int)) (L.take c)) ∧ Hid (Below wa.heap.size wa wx)) (fun _ _ i _ => L.length - (intOf i).toNat)
      case atStart => exact ⟨0, p2, p2, Nat.zero_le _, rfl, rfl, rfl, ⟨hp0, hp1, hp0, hp1⟩, Lib.hid ⟨HP0.out.symm, HP0.out.symm⟩, Lib.hid (Below.refl _ _)⟩
      case round =>
        obtain ⟨c, F, T, hc, rfl, rfl, rfl, hFT, HFT, HW⟩ := hrel
        have hc0 : (0 : Int) ≤ (c : Int) := by omega
        by_cases hcl : c < L.length
        · obtain ⟨i, hi⟩ : ∃ i, L[c]? = some i := ⟨_, List.getElem?_eq_getElem hcl⟩
          have HIX := Lib.hid hi
          obtain ⟨bl, offl, hA, hcell⟩ := one_at (NumsAt.below HV.out HW.out) hi
          injection hA with hA
          injection hA with hA1 hA2 _
          subst hA1 hA2
          have y0 := hcell _ rfl
          obtain ⟨jj, p, hij, hp, hq0, hq1⟩ := HLP.out i (List.mem_of_getElem? hi)
          subst hij
          have HIx := Lib.hid (HI.out.below HW.out)
          obtain ⟨bp, offp, hA, hb, hcell2⟩ := row_at (LawFrame.RowsAt.below HL.out.2.1 HIx.out.2.2.1) hp
          injection hA with hA
          injection hA with hA1 hA2 _
          subst hA1 hA2
          have HPP := Lib.hid (placeOf_of hp)
          obtain ⟨x0, x1, x2, x3, x4, x5⟩ := p
          have q0 := hcell2 0 _ rfl
          have q1 := hcell2 1 _ rfl
          have q2 := hcell2 2 _ rfl
          have q3 := hcell2 3 _ rfl
          have q4 := hcell2 4 _ rfl
          have q5 := hcell2 5 _ rfl
          simp only [Nat.add_zero] at q0 q1 q2 q3 q4 q5 hq0 hq1
          have hjjl : jj < ps.length := (List.getElem?_eq_some_iff.1 hp).1
          have hjj1 : (jj : Int) < (ps.length : Int) := by omega
          have hjj0 : (0 : Int) ≤ (jj : Int) := by omega
          have hc1 : (c : Int) < (L.length : Int) := by omega
          have HNX : Hid (min F x2 = loOf ps (placeOf ps (j : Int)) (L.take (c + 1)) ∧ max T x2 = hiOf ps (placeOf ps (j : Int)) (L.take (c + 1))) := Lib.hid (by
            have h1 : placeOf ps (jj : Int) = x2 := HPP.out
            rw [loOf_next HIX.out, hiOf_next HIX.out, h1, HFT.out.1, HFT.out.2]
            exact ⟨rfl, rfl⟩)
          have z6 : wr.cell? ⟨w.heap.size, 6, none⟩ = some (.slice (some ⟨b1, off1, none⟩) ps.length cp) := HIx.out.2.2.2.cell 6
          have hmm : (min F x2 = F ∧ F ≤ x2 ∨ min F x2 = x2 ∧ x2 < F) ∧ (max T x2 = T ∧ x2 ≤ T ∨ max T x2 = x2 ∧ T < x2) := by omega
          clear hcell hcell2 hb hp hi HIx
          go_upto_region 13 with fail
          go_quiet (fail)
          have HW1 := Lib.hid (below_drewn HW.out nq)
          clear y0 q0 q1 q2 q3 q4 q5 z6 HW
          generalize wr.drewN nq = wb at *
          have e1 : (if x2 < F then x2 else F) = min F x2 := by split <;> omega
          have e2 : (if T < x2 then x2 else T) = max T x2 := by split <;> omega
          rw [e1, e2]
          clear e1 e2
          obtain ⟨F2, hF2⟩ : ∃ F2, F2 = min F x2 := ⟨_, rfl⟩
          obtain ⟨T2, hT2⟩ : ∃ T2, T2 = max T x2 := ⟨_, rfl⟩
          rw [← hF2, ← hT2] at HNX ⊢
          have hFT2 : 0 ≤ F2 ∧ F2 ≤ 255 ∧ 0 ≤ T2 ∧ T2 ≤ 255 := by omega
          clear hF2 hT2 hmm
          go_wp2_with fail
          go_roundw
          case rel => exact ⟨c + 1, F2, T2, by omega, by go_num, by go_num, by go_num, hFT2, HNX, HW1⟩
          case measure => simp [intOf]; omega
        · have hcl2 : c = L.length := by omega
          have HFF : Hid (F = loOf ps (placeOf ps (j : Int)) L ∧ T = hiOf ps (placeOf ps (j : Int)) L) := Lib.hid (by have h := HFT.out; rw [hcl2, List.take_length] at h; exact h)
          have hc2 : ¬ (c : Int) < (L.length : Int) := by omega
          have HIe := Lib.hid (HI.out.below HW.out)
          have HPA2 : Hid (pollAt m k = some ⟨(k : Int), F, T - F + 1⟩) := Lib.hid (by rw [HFF.out.1, HFF.out.2]; exact HPA.out)
          have HNE := Lib.hid (pollsUpto_yes HPA2.out)
          have z4 : wr.cell? ⟨q, 0, none⟩ = some (.int .i64 (k : Int)) := (HBQ.out.below HW.out HBQ.out.lt).cell 0
          have hwr : w.heap.size ≤ wr.heap.size := HIe.out.2.2.1.size
          have HO := Lib.hid (one_poll ⟨(k : Int), F, T - F + 1⟩)
          clear hcl2 HFT HFF HPA HPA2 HI HW HV HLP HBQ HP0
          go_wp2_with (at_builtin; refine Words.wpList_append_any _ rfl (.tmp 65) (.tmp 73) _ rfl w.heap.size 33 i0 _ 3 24 Try.underlying30 hi0 hz0 hz1 hz2 rfl (by omega) u3 n _ rfl (HIe.out.2.1.alloc _) (wr.heap.size + 1) (some ⟨wr.heap.size, 0, none⟩) 1 1 (Pl.cells ⟨(k : Int), F, T - F + 1⟩) rfl (reads_poll _ _ rfl ⟨(k : Int), F, T - F + 1⟩ _) HO.out (by simp only [maxLen]; omega) (by omega) (by simp; omega) ?_; intro v' w3 ho hg hat; have HI2 := Lib.hid (HIe.out.app ho hg HNE.out); clear ho hg hat HIe)
          go_roundw
          case rel => exact ⟨k + 1, n + 1, by omega, by go_num, HI2⟩
          case measure => simp [intOf]; omega
    · have hkl : k = ds.length := by omega
      have HF : Hid (PollIs w #[.int .i64 r, .int .i64 wt, .int .i64 bk, .int .i64 cy, .string key, .slice Ad ds.length cd, .slice Ap ps.length cp, .slice Ac cs.length cc, .slice Ae es.length ce] (pollsF m) n u3 wr) := Lib.hid (by have h := HI.out; rw [hkl] at h; unfold pollsF; rw [show m.devs = ds by rw [HMM.out]]; exact h)
      clear hkl HI
      have hk2 : ¬ (k : Int) < (ds.length : Int) := by omega
      go_wp2_with fail
      go_ret
      exact ⟨_, rfl, fun _ => by rw [← HMM.out]; exact HF.out.ends, fun hn => absurd (by rw [← HMM.out]; exact HR.out) hn, HF.out.2.2.1⟩
end Go.Proofs.Ytbpenoelmangkaa
