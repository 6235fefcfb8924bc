/-
  THE WALK of a line that is read.
-/
import Derived.Test.YtckbdnkonccmiaaDoorMatSofar
import Derived.Test.YtckbdnkonccmiaaDoorMatDev
import Derived.Test.YtckbdnkonccmiaaDoorMatPt
import Derived.Test.YtckbdnkonccmiaaDoorMatCs
import Derived.Test.YtckbdnkonccmiaaDoorMatEf
import Derived.Laws.EntriesVeiled
import Derived.Lib.Slices
namespace Go.Proofs.YtckbdnkonccmiaaDoor
open Go.RowKit
/-- what is wrong with a line, by its row and by what the matrix is then -/
def codeOf (s : Row) (right : Bool) : Int := if s.2.1 = true then 81 else if s.2.2 = true then 82 else if right = true then 0 else 81
theorem form_zero (w : World) : (zeroValue 96).run Tryd.prog w = .ok formZ w := by kernel_rfl
set_option maxHeartbeats 4000000 in
set_option maxRecDepth 100000 in
theorem line_unknown (c : RC) (s : Row) (w : World) (h : RSS c s w) (ws : List ByteArray) (x : ByteArray) (vw : Value) (hw : StrsAt w ws vw) (hx : ws[0]? = some x) (hxs : x.size ≤ 1000000) (fb : Nat) (hfm : MapV formZ w fb 6 formsF) (hff : formsF x = none) :
    Calls Tryd.prog 32 #[.pointer (some ⟨c.g, 0, none⟩), vw, .map (some fb)] w fun e w' => e = .returned (.int .i64 81) ∧ RSS c s w' := by
  obtain ⟨A, cw, e, hc, -⟩ := id hw
  subst e
  obtain ⟨b, off, hA, hcell⟩ := one_at hw hx
  subst hA
  have y0 := hcell _ rfl
  simp only [Nat.add_zero] at y0
  have hlk := hfm.look Tryd.underlying67 (form_zero w) (k := x) (by simp only [maxLen]; omega)
  rw [hff] at hlk
  simp only [Option.getD_none, Option.isSome_none, formZ] at hlk
  have hn0 : (0 : Int) < (ws.length : Int) := by have := (List.getElem?_eq_some_iff.1 hx).1; omega
  have HR := Lib.hid h
  clear h hw hfm hff hx hcell
  go_enter Tryd.func32, Tryd.ntmps32
  go_wp2_with fail
  go_ret
  exact ⟨rfl, HR.out.below ((Below.refl _ _).alloc (Nat.le_refl _) _)⟩
set_option maxHeartbeats 4000000 in
set_option maxRecDepth 100000 in
theorem line_count (c : RC) (s : Row) (w : World) (h : RSS c s w) (ws : List ByteArray) (x : ByteArray) (vw : Value) (hw : StrsAt w ws vw) (hwl : ws.length ≤ 100000) (hx : ws[0]? = some x) (hxs : x.size ≤ 1000000) (fb : Nat) (hfm : MapV formZ w fb 6 formsF) {lo hi : Int} {fn : Nat} (hff : formsF x = some (formV lo hi fn)) (hno : ¬ (lo ≤ (ws.length : Int) ∧ (ws.length : Int) ≤ hi)) :
    Calls Tryd.prog 32 #[.pointer (some ⟨c.g, 0, none⟩), vw, .map (some fb)] w fun e w' => e = .returned (.int .i64 81) ∧ RSS c s w' := by
  obtain ⟨A, cw, e, hc, -⟩ := id hw
  subst e
  obtain ⟨b, off, hA, hcell⟩ := one_at hw hx
  subst hA
  have y0 := hcell _ rfl
  simp only [Nat.add_zero] at y0
  have hlk := hfm.look Tryd.underlying67 (form_zero w) (k := x) (by simp only [maxLen]; omega)
  rw [hff] at hlk
  simp only [Option.getD_some, Option.isSome_some, formV] at hlk
  have hn0 : (0 : Int) < (ws.length : Int) := by have := (List.getElem?_eq_some_iff.1 hx).1; omega
  have HR := Lib.hid (h.below ((Below.refl _ _).alloc (Nat.le_refl _) (.cells #[.int .i64 lo, .int .i64 hi, .func (.func fn) #[] #[]] 96)))
  have HNO := Lib.hid hno
  clear h hw hfm hff hx hcell hno
  go_enter Tryd.func32, Tryd.ntmps32
  go_wp2_with fail
  refine (mwithin_any _ _ _ _).mono ?_
  rintro e w1 ⟨rfl, rfl⟩
  rw [decide_eq_false HNO.out]
  go_wp2_with fail
  go_ret
  exact ⟨rfl, HR.out⟩
set_option maxHeartbeats 8000000 in
set_option maxRecDepth 100000 in
/-- a line of a form, of as many words as it may have -/
theorem line_known (c : RC) (s : Row) (w : World) (h : RSS c s w) (x : ByteArray) (t : List ByteArray) (vw : Value) (hwW : StrsAt c.W (x :: t) vw) (hwl : t.length ≤ 100000) (hxs : x.size ≤ 1000000) (fb : Nat) (hfm : MapV formZ w fb 6 formsF) {lo hi : Int} {fn : Nat} (hff : formsF x = some (formV lo hi fn)) (hyes : lo ≤ ((t.length + 1 : Nat) : Int) ∧ ((t.length + 1 : Nat) : Int) ≤ hi)
    (eg : ∀ args w, (callFunc fn args).run Tryd.prog w = .ok (.enter fn args) w) (Q : RC → Row → World → Prop)
    (hcall : ∀ w1, RSS c (t, false, false) w1 → Calls Tryd.prog fn #[.pointer (some ⟨c.g, 0, none⟩)] w1 fun e w' => e = .returned (.tuple #[]) ∧ ∃ c' s', c'.g = c.g ∧ RSS c' s' w' ∧ (∀ w'', Below w'.heap.size w' w'' → Q c' s' w'') ∧ MatSmall (sofarM c'.m c'.wt c'.lk)) :
    Calls Tryd.prog 32 #[.pointer (some ⟨c.g, 0, none⟩), vw, .map (some fb)] w fun e w' => ∃ c' s' b, e = .returned (.int .i64 (codeOf s' b)) ∧ (b = true ↔ RightP (sofarM c'.m c'.wt c'.lk)) ∧ Q c' s' w' ∧ RSS c' s' w' := by
  obtain ⟨A, cw, e, hc, -⟩ := id hwW
  subst e
  obtain ⟨vl, hr⟩ := h
  have hw := LawFrame.RowsAt.below hwW hr.old
  obtain ⟨b, off, hA, hcell⟩ := one_at (k := 0) (x := x) hw rfl
  subst hA
  have y0 := hcell _ rfl
  simp only [Nat.add_zero] at y0
  have htl := strs_tail hwW
  have hlk := hfm.look Tryd.underlying67 (form_zero w) (k := x) (by simp only [maxLen]; omega)
  rw [hff] at hlk
  simp only [Option.getD_some, Option.isSome_some, formV] at hlk
  simp only [List.length_cons] at hc
  obtain ⟨n, hn⟩ : ∃ n, n = t.length + 1 := ⟨_, rfl⟩
  rw [show (x :: t).length = n from hn.symm]
  rw [← hn] at hc hyes
  have hn0 : (0 : Int) < (n : Int) := by omega
  have hn1 : (1 : Int) ≤ (n : Int) := by omega
  have hr2 := hr.alloc (.cells #[.int .i64 lo, .int .i64 hi, .func (.func fn) #[] #[]] 96)
  have f12 : (w.alloc (.cells #[.int .i64 lo, .int .i64 hi, .func (.func fn) #[] #[]] 96)).frozen? ⟨c.g, 12, none⟩ = false := hr2.free 12
  have HR := Lib.hid hr2
  have HN := Lib.hid hn
  have HY := Lib.hid hyes
  have HT := Lib.hid htl
  have HC := Lib.hid hcall
  clear hr hw hwW hcell hfm hff hyes hcall hr2 f12 htl hn
  go_enter Tryd.func32, Tryd.ntmps32
  go_wp2_with fail
  refine (mwithin_any _ _ _ _).mono ?_
  rintro e w1 ⟨rfl, rfl⟩
  rw [decide_eq_true HY.out]
  generalize hwq : w.alloc (.cells #[.int .i64 lo, .int .i64 hi, .func (.func fn) #[] #[]] 96) = wq at *
  have z12 : wq.cell? ⟨c.g, 12, none⟩ = some vl := HR.out.cell 12
  have z13 : wq.cell? ⟨c.g, 13, none⟩ = some (.bool s.2.1) := HR.out.cell 13
  have z14 : wq.cell? ⟨c.g, 14, none⟩ = some (.bool s.2.2) := HR.out.cell 14
  have f12 : wq.frozen? ⟨c.g, 12, none⟩ = false := HR.out.free 12
  have f13 : wq.frozen? ⟨c.g, 13, none⟩ = false := HR.out.free 13
  have f14 : wq.frozen? ⟨c.g, 14, none⟩ = false := HR.out.free 14
  have HF : Hid (Words.Blk wq w.heap.size 96 #[.int .i64 lo, .int .i64 hi, .func (.func fn) #[] #[]]) := Lib.hid (by rw [← hwq]; exact Words.Blk.new w _ _)
  have HNE : Hid (w.heap.size ≠ c.g) := Lib.hid (fun e => Words.Blk.ne_ HR.out.at_.blk HF.out (by decide) e.symm)
  clear hwq
  obtain ⟨V, hV, hcs⟩ : ∃ V, StrsAt c.W t V ∧ (cw = 1 ∧ V = .slice (some ⟨b, off, none⟩) 0 0 ∨ 1 < cw ∧ V = .slice (some ⟨b, off + 1, none⟩) (n - 1) (cw - 1)) := by
    by_cases hc1 : cw = 1
    · refine ⟨_, ?_, .inl ⟨hc1, rfl⟩⟩
      rw [show t = [] from List.length_eq_zero_iff.1 (by have := HN.out; omega)]
      exact strs_none
    · refine ⟨_, ?_, .inr ⟨by omega, rfl⟩⟩
      rw [show n - 1 = t.length by have := HN.out; omega]
      exact HT.out
  have s1 := HR.out.store (wr' := s.2.1) (un' := s.2.2) (vl' := V) 12 V rfl hV
  have s2 := s1.store (wr' := false) (un' := s.2.2) (vl' := V) 13 (.bool false) rfl hV
  have s3 := s2.store (wr' := false) (un' := false) (vl' := V) 14 (.bool false) rfl hV
  have b3 := ((HF.out.far (p := ⟨c.g, 12, none⟩) HNE.out V).far (p := ⟨c.g, 13, none⟩) HNE.out (.bool false)).far (p := ⟨c.g, 14, none⟩) HNE.out (.bool false)
  have HS3 : Hid (RSS c (t, false, false) (((wq.setCell ⟨c.g, 12, none⟩ V).setCell ⟨c.g, 13, none⟩ (.bool false)).setCell ⟨c.g, 14, none⟩ (.bool false))) := Lib.hid ⟨V, s3⟩
  have HB3 := Lib.hid b3
  clear s1 s2 s3 b3 hV
  rcases hcs with ⟨hc1, hV⟩ | ⟨hc2, hV⟩
  · subst hc1 hV
    obtain rfl : n = 1 := by omega
    go_upto_region 5 with fail
    obtain ⟨wz, hwz⟩ : ∃ wz, wz = ((wq.setCell ⟨c.g, 12, none⟩ (.slice (some ⟨b, off, none⟩) 0 0)).setCell ⟨c.g, 13, none⟩ (.bool false)).setCell ⟨c.g, 14, none⟩ (.bool false) := ⟨_, rfl⟩
    rw [← hwz] at HS3 HB3 ⊢
    clear hwz z12 z13 z14 f12 f13 f14
    have p2 : wz.cell? ⟨w.heap.size, 2, none⟩ = some (.func (.func fn) #[] #[]) := HB3.out.cell 2
    go_wp2_with fail
    refine (HC.out wz HS3.out).mono ?_
    rintro e w2 ⟨rfl, c', s', hg, hrs, hQ, hsm⟩
    obtain ⟨vl2, hr2⟩ := hrs
    have z13 : w2.cell? ⟨c'.g, 13, none⟩ = some (.bool s'.2.1) := hr2.cell 13
    have z14 : w2.cell? ⟨c'.g, 14, none⟩ = some (.bool s'.2.2) := hr2.cell 14
    rw [hg] at z13 z14
    have HR2 := Lib.hid hr2
    have HQ := Lib.hid hQ
    have HSM := Lib.hid hsm
    have HG := Lib.hid hg
    obtain ⟨rb, hrb⟩ : ∃ rb : Bool, (rb = true ↔ RightP (sofarM c'.m c'.wt c'.lk)) := by
      by_cases h : RightP (sofarM c'.m c'.wt c'.lk)
      · exact ⟨true, fun _ => h, fun _ => rfl⟩
      · exact ⟨false, fun e => (by cases e), fun e => absurd e h⟩
    have HRB := Lib.hid hrb
    clear hr2 hQ hsm hg hrb p2
    cases h1 : s'.2.1 with
    | true =>
      rw [h1] at z13
      have HE : Hid (codeOf s' rb = 81) := Lib.hid (by unfold codeOf; rw [h1]; rfl)
      clear h1
      go_wp2_with fail
      go_ret
      exact ⟨c', s', rb, by rw [HE.out]; rfl, HRB.out, HQ.out _ (Below.refl _ _), ⟨_, HR2.out⟩⟩
    | false =>
      rw [h1] at z13
      cases h2 : s'.2.2 with
      | true =>
        rw [h2] at z14
        have HE : Hid (codeOf s' rb = 82) := Lib.hid (by unfold codeOf; rw [h1, h2]; rfl)
        clear h1 h2
        go_wp2_with fail
        go_ret
        exact ⟨c', s', rb, by rw [HE.out]; rfl, HRB.out, HQ.out _ (Below.refl _ _), ⟨_, HR2.out⟩⟩
      | false =>
        rw [h2] at z14
        have HE : Hid (codeOf s' rb = if rb = true then 0 else 81) := Lib.hid (by unfold codeOf; rw [h1, h2]; rfl)
        clear h1 h2
        go_wp2_with fail
        have hso := sofar_any c' s' w2 ⟨_, HR2.out⟩
        rw [HG.out] at hso
        refine hso.mono ?_
        rintro e w3 ⟨rfl, hb3⟩
        have HB4 := Lib.hid hb3
        have hmat : MatAt w3 (sofarM c'.m c'.wt c'.lk) c'.vd c'.vp c'.vc c'.ve := (HR2.out.at_.mat).below hb3
        clear hb3 hso
        go_wp2_with fail
        refine (lRight_any _ _ _ _ _ _ hmat HSM.out).mono ?_
        rintro e w4 ⟨b4, rfl, hb4, hbe⟩
        obtain rfl : b4 = rb := by
          have := HRB.out
          cases b4 <;> cases rb <;> simp_all
        have HB5 := Lib.hid (HB4.out.trans (hbe.mono HB4.out.size))
        clear hb4 hbe hmat
        cases b4 with
        | true =>
          go_wp2_with fail
          go_ret
          exact ⟨c', s', true, by rw [HE.out]; rfl, by first | exact HRB.out | exact ⟨fun _ => HRB.out.1 trivial, fun _ => rfl⟩, HQ.out _ HB5.out, ⟨_, HR2.out.below HB5.out⟩⟩
        | false =>
          go_wp2_with fail
          go_ret
          exact ⟨c', s', false, by rw [HE.out]; rfl, by first | exact HRB.out | exact ⟨fun h => (by cases h), fun h => absurd h (fun h => by have := HRB.out.2 h; simp at this)⟩, HQ.out _ HB5.out, ⟨_, HR2.out.below HB5.out⟩⟩
  · subst hV
    go_upto_region 5 with fail
    obtain ⟨wz, hwz⟩ : ∃ wz, wz = ((wq.setCell ⟨c.g, 12, none⟩ (.slice (some ⟨b, off + 1, none⟩) (n - 1) (cw - 1))).setCell ⟨c.g, 13, none⟩ (.bool false)).setCell ⟨c.g, 14, none⟩ (.bool false) := ⟨_, rfl⟩
    rw [← hwz] at HS3 HB3 ⊢
    clear hwz z12 z13 z14 f12 f13 f14
    have p2 : wz.cell? ⟨w.heap.size, 2, none⟩ = some (.func (.func fn) #[] #[]) := HB3.out.cell 2
    go_wp2_with fail
    refine (HC.out wz HS3.out).mono ?_
    rintro e w2 ⟨rfl, c', s', hg, hrs, hQ, hsm⟩
    obtain ⟨vl2, hr2⟩ := hrs
    have z13 : w2.cell? ⟨c'.g, 13, none⟩ = some (.bool s'.2.1) := hr2.cell 13
    have z14 : w2.cell? ⟨c'.g, 14, none⟩ = some (.bool s'.2.2) := hr2.cell 14
    rw [hg] at z13 z14
    have HR2 := Lib.hid hr2
    have HQ := Lib.hid hQ
    have HSM := Lib.hid hsm
    have HG := Lib.hid hg
    obtain ⟨rb, hrb⟩ : ∃ rb : Bool, (rb = true ↔ RightP (sofarM c'.m c'.wt c'.lk)) := by
      by_cases h : RightP (sofarM c'.m c'.wt c'.lk)
      · exact ⟨true, fun _ => h, fun _ => rfl⟩
      · exact ⟨false, fun e => (by cases e), fun e => absurd e h⟩
    have HRB := Lib.hid hrb
    clear hr2 hQ hsm hg hrb p2
    cases h1 : s'.2.1 with
    | true =>
      rw [h1] at z13
      have HE : Hid (codeOf s' rb = 81) := Lib.hid (by unfold codeOf; rw [h1]; rfl)
      clear h1
      go_wp2_with fail
      go_ret
      exact ⟨c', s', rb, by rw [HE.out]; rfl, HRB.out, HQ.out _ (Below.refl _ _), ⟨_, HR2.out⟩⟩
    | false =>
      rw [h1] at z13
      cases h2 : s'.2.2 with
      | true =>
        rw [h2] at z14
        have HE : Hid (codeOf s' rb = 82) := Lib.hid (by unfold codeOf; rw [h1, h2]; rfl)
        clear h1 h2
        go_wp2_with fail
        go_ret
        exact ⟨c', s', rb, by rw [HE.out]; rfl, HRB.out, HQ.out _ (Below.refl _ _), ⟨_, HR2.out⟩⟩
      | false =>
        rw [h2] at z14
        have HE : Hid (codeOf s' rb = if rb = true then 0 else 81) := Lib.hid (by unfold codeOf; rw [h1, h2]; rfl)
        clear h1 h2
        go_wp2_with fail
        have hso := sofar_any c' s' w2 ⟨_, HR2.out⟩
        rw [HG.out] at hso
        refine hso.mono ?_
        rintro e w3 ⟨rfl, hb3⟩
        have HB4 := Lib.hid hb3
        have hmat : MatAt w3 (sofarM c'.m c'.wt c'.lk) c'.vd c'.vp c'.vc c'.ve := (HR2.out.at_.mat).below hb3
        clear hb3 hso
        go_wp2_with fail
        refine (lRight_any _ _ _ _ _ _ hmat HSM.out).mono ?_
        rintro e w4 ⟨b4, rfl, hb4, hbe⟩
        obtain rfl : b4 = rb := by
          have := HRB.out
          cases b4 <;> cases rb <;> simp_all
        have HB5 := Lib.hid (HB4.out.trans (hbe.mono HB4.out.size))
        clear hb4 hbe hmat
        cases b4 with
        | true =>
          go_wp2_with fail
          go_ret
          exact ⟨c', s', true, by rw [HE.out]; rfl, by first | exact HRB.out | exact ⟨fun _ => HRB.out.1 trivial, fun _ => rfl⟩, HQ.out _ HB5.out, ⟨_, HR2.out.below HB5.out⟩⟩
        | false =>
          go_wp2_with fail
          go_ret
          exact ⟨c', s', false, by rw [HE.out]; rfl, by first | exact HRB.out | exact ⟨fun h => (by cases h), fun h => absurd h (fun h => by have := HRB.out.2 h; simp at this)⟩, HQ.out _ HB5.out, ⟨_, HR2.out.below HB5.out⟩⟩
end Go.Proofs.YtckbdnkonccmiaaDoor
