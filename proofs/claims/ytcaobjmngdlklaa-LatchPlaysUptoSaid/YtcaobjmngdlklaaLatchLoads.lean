/-
  LatchLoads: what is loaded of all latches is all of them; what may not be changes nothing. Where the arguments hold at most 1048576 values and letters (the second form).
-/
import Derived.Test.YtcaobjmngdlklaaLatchApart
import Derived.JoinedCond
namespace Go.Proofs.Ytcaobjmngdlklaa
open Go.RowKit Go.ChangeShapes Go.WideShapes
/-- a slice's length is within the bulk of its reading -/
theorem slice_bulk {H : Type} {enc : TypeId × Value → H} {w : World} {t e : TypeId} {A : Option Addr} {n c : Nat} {d : DataW H} {p : List MemPlace} (ht : Try.prog.underlying t = some (.slice e)) (h : DataW.Trod enc Try.prog w 0 (fun _ => true) true t (.slice A n c) d p) : n ≤ Rows.uptoBulk d := by
  obtain ⟨fuel, hf⟩ := h
  rcases Go.Deep.open_slice ht hf with ⟨hcs, hx⟩ | ⟨a, len, cap, m, n', D, Pl, hcs, _, hl, hm, hmm, hx, hi⟩
  · have e : (Value.slice A n c) = .slice none 0 0 := by simpa [Value.cells] using hcs
    injection e with _ e2 _
    omega
  · have e : (Value.slice A n c) = .slice (some a) len cap := by simpa [Value.cells] using hcs
    injection e with _ e2 _
    have hd : d = .slice ((List.range len).map D) ((List.range (m - len)).map fun j => D (len + j)) := congrArg Prod.fst hx
    rw [hd, e2]
    have hlen : ∀ l : List (DataW H), l.length ≤ Rows.uptoBulkAll l := by
      intro l
      induction l with
      | nil => simp
      | cons x r ih =>
        have h1 : 1 ≤ Rows.uptoBulk x := by
          cases x with
          | lit l => cases l <;> simp [Rows.uptoBulk]
          | nil => simp [Rows.uptoBulk]
          | ptr d => simp [Rows.uptoBulk]
          | slice elems spare => simp [Rows.uptoBulk]
          | agg parts => simp [Rows.uptoBulk]
          | iface t d => simp [Rows.uptoBulk]
          | map entries => simp [Rows.uptoBulk]
          | held h => simp [Rows.uptoBulk]
        simp only [Rows.uptoBulkAll, List.length_cons]
        omega
    have h2 := hlen ((List.range len).map D)
    simp only [List.length_map, List.length_range] at h2
    simp only [Rows.uptoBulk]
    omega
/-- both rows of latches, of any groups -/
structure LP (gs : List Int) (B gx : Nat) (vx : Value) (x1 x2 gy : Nat) (vy : Value) (y1 y2 N : Nat) (s : LS) (w w' : World) : Prop where
  x : LAt B gx vx x1 x2 N s w'
  y : LAt B gy vy y1 y2 N (fresh gs) w'
  sep : Sep gx vx x1 x2 gy vy y1 y2
  gs : grps s = gs
  inv : Inv s
  below : Below B w w' ∧ B ≤ w'.heap.size
section
variable {gs : List Int} {B gx x1 x2 gy y1 y2 N : Nat} {vx vy : Value} {s : LS} {w w1 : World}
theorem LP.len (h : LP gs B gx vx x1 x2 gy vy y1 y2 N s w w1) : s.l.length = gs.length := by rw [← h.gs]; simp [grps]
theorem LP.drew (h : LP gs B gx vx x1 x2 gy vy y1 y2 N s w w1) : LP gs B gx vx x1 x2 gy vy y1 y2 N s w w1.drew := ⟨h.x, h.y, h.sep, h.gs, h.inv, h.below.1.drew, h.below.2⟩
theorem LP.mono (h : LP gs B gx vx x1 x2 gy vy y1 y2 N s w w1) {N' : Nat} (hN : N ≤ N') : LP gs B gx vx x1 x2 gy vy y1 y2 N' s w w1 := ⟨h.x.mono hN, h.y.mono hN, h.sep, h.gs, h.inv, h.below⟩
theorem lp_trip (h : LP gs B gx vx x1 x2 gy vy y1 y2 N s w w1) (hg : gs.length ≤ 60) (hN : N < 1000000) (i now : Int) : Calls Try.prog 14 #[.pointer (some ⟨gx, 0, none⟩), .int .i64 i, .int .i64 now] w1 fun e w' => (∃ b, e = .returned (.bool b)) ∧ LP gs B gx vx x1 x2 gy vy y1 y2 (N + 2) (trip s i now).2 w w' := by
  refine (trip_any B gx vx x1 x2 N s w1 h.x hN h.inv (by rw [h.len]; omega) i now).mono ?_
  rintro e w' ⟨h1, h2, h3⟩
  exact ⟨⟨_, h1⟩, h2, (h.x.sep h.y h.sep h3).mono (by omega), h.sep, by rw [grps_trip]; exact h.gs, inv_trip h.inv i now, h.below.1.trans (h.x.foot h3 h.below.2), Nat.le_trans h.below.2 h3.size⟩
theorem lp_reset (h : LP gs B gx vx x1 x2 gy vy y1 y2 N s w w1) (hg : gs.length ≤ 60) (hN : N < 1000000) (i : Int) : Calls Try.prog 10 #[.pointer (some ⟨gx, 0, none⟩), .int .i64 i] w1 fun e w' => (∃ b, e = .returned (.bool b)) ∧ LP gs B gx vx x1 x2 gy vy y1 y2 (N + 2) (reset s i).2 w w' := by
  refine (reset_any B gx vx x1 x2 N s w1 h.x hN h.inv (by rw [h.len]; omega) i).mono ?_
  rintro e w' ⟨h1, h2, h3⟩
  exact ⟨⟨_, h1⟩, h2, (h.x.sep h.y h.sep h3).mono (by omega), h.sep, by rw [grps_reset]; exact h.gs, inv_reset h.inv i, h.below.1.trans (h.x.foot h3 h.below.2), Nat.le_trans h.below.2 h3.size⟩
end
theorem lats_row {w : World} {base n : Nat} {l : List Lat} {v : Value} (h : w.ownsRow base 37 3 v n (l.flatMap latC)) : LatsAt w l v := LawFrame.RowsAt.of_own latC_len (by decide) h
/-- the block of a row of latches as they are seen is none of the latches' -/
theorem row_apart {B g m1 m2 N base n : Nat} {v v2 : Value} {s : LS} {l : List Lat} {w : World} (h : LAt B g v m1 m2 N s w) (hr : w.ownsRow base 37 3 v2 n (l.flatMap latC)) : ∀ b off c, v2 = .slice (some ⟨b, off, none⟩) l.length c → b ≠ g ∧ v.ownBlock ≠ some b ∧ b ≠ m1 ∧ b ≠ m2 := by
  rintro b off c rfl
  have hob : ∃ cs, w.heap[b]? = some (Obj.cells cs 37 (0, 0)) := by
    rcases hr.2 with ⟨e, _⟩ | ⟨g', cap, cur, e, _, hg, _⟩
    · cases e
    · injection e with e _ _
      injection e with e
      injection e with e _ _
      subst e
      exact ⟨_, hg⟩
  obtain ⟨cs, hc⟩ := hob
  obtain ⟨es1, cl1, o1⟩ := h.1.2.2.1.obj
  obtain ⟨es2, cl2, o2⟩ := h.1.2.2.2.obj
  have og := h.1.1
  unfold Words.Blk at og
  refine ⟨?_, ?_, ?_, ?_⟩
  · rintro rfl; rw [og] at hc; injection hc with e; injection e with _ e; cases e
  · intro e
    obtain ⟨cs', h'⟩ := own_obj h.1.2.1 e
    rw [h'] at hc; injection hc with e; injection e with _ e; cases e
  · rintro rfl; rw [o1] at hc; cases hc
  · rintro rfl; rw [o2] at hc; cases hc
/-- .. nor is one from below -/
theorem low_apart {B g m1 m2 N n q : Nat} {v v2 : Value} {s : LS} {w : World} {A : Option Addr} {c : Nat} (h : LAt B g v m1 m2 N s w) (hv : v2 = .slice A n c) (hA : ∀ b off, A = some ⟨b, off, none⟩ → b < B) : ∀ b off c, v2 = .slice (some ⟨b, off, none⟩) q c → b ≠ g ∧ v.ownBlock ≠ some b ∧ b ≠ m1 ∧ b ≠ m2 := by
  rintro b off c' rfl
  injection hv with e _ _
  have hb := hA b off e.symm
  have h1 := h.2.1
  exact ⟨by omega, fun e => by have := (h.1.2.1.lt b e).1; omega, by omega, by omega⟩
theorem lats_low {w : World} {l : List Lat} {v : Value} (h : LatsAt w l v) : ∃ A c, v = .slice A l.length c ∧ (∀ b off, A = some ⟨b, off, none⟩ → l ≠ [] → b < w.heap.size) := by
  obtain ⟨A, c, rfl, hc, hx⟩ := h
  refine ⟨A, c, rfl, fun b off hA hne => ?_⟩
  obtain ⟨b', off', hA', hb, _⟩ := hx hne
  rw [hA] at hA'
  injection hA' with e
  injection e with e _ _
  omega
theorem load_apart {B g m1 m2 N : Nat} {v v2 : Value} {s : LS} {w W : World} {l : List Lat} (h : LAt B g v m1 m2 N s w) (hl : LatsAt W l v2) (hB : W.heap.size ≤ B) : ∀ b off c, v2 = .slice (some ⟨b, off, none⟩) l.length c → l ≠ [] → b ≠ g ∧ v.ownBlock ≠ some b ∧ b ≠ m1 ∧ b ≠ m2 := by
  intro b off c e hne
  obtain ⟨A, c', e', hb⟩ := lats_low hl
  have hA : A = some ⟨b, off, none⟩ := by rw [e] at e'; injection e' with e' _ _; exact e'.symm
  have hlt := hb b off hA hne
  have h1 := h.2.1
  exact ⟨by omega, fun e => by have := (h.1.2.1.lt b e).1; omega, by omega, by omega⟩
def LPEnd (w : World) (e : Ending) (w' : World) : Prop := e = .returned (.bool true) ∧ Below w.heap.size w w'
set_option maxHeartbeats 4000000 in
set_option maxRecDepth 100000 in
theorem loads_walk (gs : List Int) (l : List LOp) (other : List Lat) (v0 v1 v2 : Value) (w : World) (hg : NumsAt w gs v0) (hgf : ∀ x ∈ gs, Fit64 x) (hgl : gs.length ≤ 2000000) (h : OpsAt w l v1) (hp : ∀ o ∈ l, LatsAt w o.L o.vL) (hll : l.length ≤ maxLen) (ho : LatsAt w other v2) (hol : other.length ≤ maxLen) :
    Calls Try.prog 4 #[v0, v1, v2] w (LPEnd w) := by
  have hv := h
  obtain ⟨A, c, rfl, hc, -⟩ := hv
  have hv := hg
  obtain ⟨AG, cG, rfl, hcG, -⟩ := hv
  have hv := ho
  obtain ⟨AO, cO, rfl, hcO, -⟩ := hv
  have H := Lib.hid h
  have HP := Lib.hid hp
  have HG := Lib.hid hg
  have HGF := Lib.hid hgf
  have HO := Lib.hid ho
  unfold maxLen at hll hol
  clear h hp hg hgf ho
  have hnil := fun (w : World) (p : Option Addr) => run_eql_pointer_nil (P := Try.prog) w 25 p (by kernel_rfl)
  have hnn := fun (w : World) (p : Option Addr) => run_neq_pointer_nil (P := Try.prog) w 25 p (by kernel_rfl)
  go_enter Try.func4, Try.ntmps4
  go_wp2_with fail
  refine (head_walk _).mono ?_
  rintro e w2 ⟨rfl, hb1⟩
  have HB2 := Lib.hid hb1
  have hs2 : w.heap.size ≤ w2.heap.size := HB2.out.size
  clear hb1
  go_wp2_with fail
  refine (New_any gs _ w2 (LawFrame.RowsAt.below HG.out HB2.out) HGF.out hgl).mono ?_
  rintro e w3 ⟨gx, vx, x1, x2, rfl, hx, hb3⟩
  have HX := Lib.hid hx
  have HB3 := Lib.hid hb3
  clear hx hb3
  go_wp2_with fail
  refine (New_any gs _ w3 (LawFrame.RowsAt.below (LawFrame.RowsAt.below HG.out HB2.out) HB3.out) HGF.out hgl).mono ?_
  rintro e w4 ⟨gy, vy, y1, y2, rfl, hy, hb4⟩
  have hA : LP gs w2.heap.size gx vx x1 x2 gy vy y1 y2 0 (fresh gs) w2 w4 :=
    ⟨HX.out.below hb4, hy.low HB3.out.size, sep_made HX.out hy (Nat.le_refl _), grps_fresh _, inv_fresh _, HB3.out.trans (hb4.mono HB3.out.size), Nat.le_trans HB3.out.size hb4.size⟩
  have HA := Lib.hid hA
  have hpp := HB3.out.size
  clear hA hy hb4 HX HB3
  go_wp2_with fail
  refine (great_any _ gs.length _ l _ w4 (by omega) (LawFrame.RowsAt.below H.out (HB2.out.trans (HA.out.below.1.mono hs2))) (fun o ho => LawFrame.RowsAt.below (HP.out o ho) (HB2.out.trans (HA.out.below.1.mono hs2))) (by omega)).mono ?_
  rintro e w5 ⟨⟨gr, rfl, hgr⟩, rfl⟩
  rcases gr with _ | _
  · obtain ⟨hl2, hg6⟩ := hgr rfl
    clear hgr
    by_cases ho6 : 60 < other.length
    · go_wp2_with fail
      go_ret
      exact ⟨rfl, HB2.out.trans (HA.out.below.1.mono hs2)⟩
    go_wp2_with fail
    go_loopw [10] (fun i wr => ∃ (k : Nat) (s : LS), k ≤ l.length ∧ i = .int .i64 k ∧ Hid (LP gs w2.heap.size gx vx x1 x2 gy vy y1 y2 (2 * k) s w2 wr)) (fun i _ => l.length - (intOf i).toNat)
    case atStart => exact ⟨0, _, Nat.zero_le _, rfl, HA.out⟩
    case round =>
      clear HA
      obtain ⟨k, s, hk, rfl, HA⟩ := hrel
      by_cases hlt : k < l.length
      · obtain ⟨o, hx⟩ : ∃ o, l[k]? = some o := ⟨_, List.getElem?_eq_getElem hlt⟩
        obtain ⟨bb, off', c', hv, hbl, hcell⟩ := H.out.at_ hx
        have hbw := HB2.out.trans (HA.out.below.1.mono hs2)
        have e0 := (hbw.cell (p := ⟨bb, off' + k * 4 + 0, none⟩) hbl).trans (hcell 0 _ rfl)
        have e1 := (hbw.cell (p := ⟨bb, off' + k * 4 + 1, none⟩) hbl).trans (hcell 1 _ rfl)
        have e2 := (hbw.cell (p := ⟨bb, off' + k * 4 + 2, none⟩) hbl).trans (hcell 2 _ rfl)
        simp only [Nat.add_zero] at e0
        injection hv with hA e4 e5
        subst hA
        clear e4 e5 hcell hx hbw
        by_cases hwh : o.what = 3
        · have hwb : (o.what == 3) = true := by simp [hwh]
          clear hwh
          go_wp2_with fail
          refine (lp_reset HA.out hg6 (by omega) _).mono ?_
          rintro e w6 ⟨⟨b, rfl⟩, h⟩
          have HA2 := Lib.hid (h.mono (show 2 * k + 2 ≤ 2 * (k + 1) by omega))
          clear h e0 e1 e2 HA
          go_wp2_with fail
          go_roundw
          case rel => exact ⟨k + 1, _, by omega, by go_num, HA2⟩
          case measure => simp [intOf]; omega
        · have hwb : (o.what == 3) = false := by simp [hwh]
          go_upto_region 11 with fail
          go_still_tail 11, (by kernel_rfl)
          have HA1 := Lib.hid HA.out.drew
          change wpList _ _ _ _ _ wr.drew
          clear e0 e1 e2 HA
          generalize wr.drew = wa at *
          go_wp2_with fail
          refine (lp_trip HA1.out hg6 (by omega) _ _).mono ?_
          rintro e w6 ⟨⟨b, rfl⟩, h⟩
          have HA2 := Lib.hid (h.mono (show 2 * k + 2 ≤ 2 * (k + 1) by omega))
          clear h HA1
          go_wp2_with fail
          go_roundw
          case rel => exact ⟨k + 1, _, by omega, by go_num, HA2⟩
          case measure => simp [intOf]; omega
      · have hlen := HA.out.len
        have hL6 : s.l.length ≤ 1000000 := by omega
        have HLEN := Lib.hid hlen
        clear hlen
        go_wp2_with fail
        refine (All_any w2.heap.size gx vx x1 x2 _ s _ HA.out.x hL6).mono ?_
        rintro e w6 ⟨va, rfl, hra, hb6⟩
        obtain ⟨Aa, ca, rfl⟩ := own_form hra
        have HRA := Lib.hid hra
        have HY := Lib.hid (HA.out.y.below hb6)
        have HB6 := Lib.hid (HA.out.below.1.trans (hb6.mono HA.out.below.2))
        have hs6 : w2.heap.size ≤ w6.heap.size := Nat.le_trans HA.out.below.2 hb6.size
        have HV := Lib.hid (valid_view HA.out.inv)
        have HGS := Lib.hid HA.out.gs
        clear hra hb6 HA
        have hfl : (fresh gs).l.length ≤ 1000000 := by simp [fresh]; omega
        go_wp2_with fail
        refine (Load_any w2.heap.size gy vy y1 y2 _ (fresh gs) w6 HY.out (inv_fresh gs) (view s) _ (lats_row HRA.out) (fun b off c e _ => row_apart HY.out HRA.out b off c e) hs6 hfl).mono ?_
        rintro e w7 (⟨rfl, -, f, cf, z1, z2, hfo, hco, hy7, hf7⟩ | ⟨-, hnv, -⟩)
        · rw [grps_fresh] at hfo
          have hvw : view (loaded gs (view s) f cf) = view s := view_loaded (by rw [← HGS.out]; exact HV.out) hfo
          have hvi : Inv (loaded gs (view s) f cf) := inv_loaded (by rw [← HGS.out]; exact HV.out) hfo (by rw [← grps_fresh gs]; exact hco)
          have hgl7 : grps (loaded gs (view s) f cf) = gs := grps_loaded (by rw [view_len, HLEN.out])
          rw [grps_fresh] at hy7
          have HY7 := Lib.hid hy7
          have HVW := Lib.hid hvw
          have HVI := Lib.hid hvi
          have HG7 := Lib.hid hgl7
          have HB7 := Lib.hid (HB6.out.trans (HY.out.foot hf7 hs6))
          have hs7 : w2.heap.size ≤ w7.heap.size := Nat.le_trans hs6 hf7.size
          have HR7 : Hid (w7.ownsRow wr.heap.size 37 3 (.slice Aa (view s).length ca) (view s).length ((view s).flatMap latC)) := Lib.hid (own_kept HRA.out (fun k hk => by
            obtain ⟨cs, hc⟩ := own_obj HRA.out hk
            exact (HY.out.far hf7 hc (by decide) (by decide)).trans hc.symm))
          clear hfo hco hy7 hf7 hvw hvi hgl7 HRA HY HB6
          generalize loaded gs (view s) f cf = s7 at *
          have hl7 : s7.l.length ≤ 1000000 := by have := congrArg List.length HVW.out; rw [view_len, view_len] at this; omega
          have hvL : (view s).length ≤ 1000000 := by rw [view_len]; exact hL6
          go_wp2_with fail
          refine (All_any w2.heap.size gy vy z1 z2 _ s7 w7 HY7.out hl7).mono ?_
          rintro e w8 ⟨vb, rfl, hrb, hb8⟩
          obtain ⟨Ab, cb, rfl⟩ := own_form hrb
          have HY8 := Lib.hid (HY7.out.below hb8)
          have HR8 := Lib.hid (HR7.out.kept (grown_of_below hb8) (own_none _))
          have HRB : Hid (LatsAt w8 (view s) (.slice Ab (view s7).length cb)) := Lib.hid (by have := lats_row hrb; rw [HVW.out] at this ⊢; exact this)
          have HB8 := Lib.hid (HB7.out.trans (hb8.mono hs7))
          have hs8 : w2.heap.size ≤ w8.heap.size := Nat.le_trans hs7 hb8.size
          clear hrb hb8 HY7 HR7 HB7
          go_wp2_with fail
          refine (Same_any (view s) _ _ w8 HRB.out (lats_row HR8.out) hvL).mono ?_
          rintro e w9 ⟨rfl, hb9⟩
          have HY9 := Lib.hid (HY8.out.below hb9)
          have HR9 := Lib.hid (HR8.out.kept (grown_of_below hb9) (own_none _))
          have HB9 := Lib.hid (HB8.out.trans (hb9.mono hs8))
          have hs9 : w2.heap.size ≤ w9.heap.size := Nat.le_trans hs8 hb9.size
          clear hb9 HY8 HR8 HRB HB8
          have HO9 := Lib.hid (LawFrame.RowsAt.below HO.out (HB2.out.trans (HB9.out.mono hs2)))
          go_wp2_with fail
          refine (Load_any w2.heap.size gy vy z1 z2 _ s7 w9 HY9.out HVI.out other _ HO9.out (load_apart HY9.out HO.out hs2) hs9 hl7).mono ?_
          rintro e w10 (⟨rfl, hva, f2, cf2, u1, u2, hfo, hco, hy10, hf10⟩ | ⟨rfl, -, hy10, hf10⟩)
          · have hvw : view (loaded (grps s7) other f2 cf2) = other := view_loaded hva hfo
            have HVW2 := Lib.hid hvw
            have HY10 := Lib.hid hy10
            have HB10 := Lib.hid (HB9.out.trans (HY9.out.foot hf10 hs9))
            have hs10 : w2.heap.size ≤ w10.heap.size := Nat.le_trans hs9 hf10.size
            have HO10 := Lib.hid (LawFrame.RowsAt.below HO.out (HB2.out.trans (HB10.out.mono hs2)))
            have ho6' : other.length ≤ 1000000 := by omega
            have hl10 : (loaded (grps s7) other f2 cf2).l.length ≤ 1000000 := by have := congrArg List.length hvw; rw [view_len] at this; omega
            clear hva hfo hco hy10 hf10 hvw HY9 HB9 HR9 HO9
            generalize loaded (grps s7) other f2 cf2 = s10 at *
            go_wp2_with fail
            refine (All_any w2.heap.size gy vy u1 u2 _ s10 w10 HY10.out hl10).mono ?_
            rintro e w11 ⟨vd, rfl, hrd, hb11⟩
            obtain ⟨Ad, cd, rfl⟩ := own_form hrd
            have HRD : Hid (LatsAt w11 other (.slice Ad (view s10).length cd)) := Lib.hid (by have := lats_row hrd; rw [HVW2.out] at this ⊢; exact this)
            have HO11 := Lib.hid (LawFrame.RowsAt.below HO10.out hb11)
            have HB11 := Lib.hid (HB10.out.trans (hb11.mono hs10))
            have hs11 : w2.heap.size ≤ w11.heap.size := Nat.le_trans hs10 hb11.size
            clear hrd hb11 HY10 HB10 HO10
            go_wp2_with fail
            refine (Same_any other _ _ w11 HRD.out HO11.out ho6').mono ?_
            rintro e w12 ⟨rfl, hb12⟩
            have HB12 := Lib.hid (HB11.out.trans (hb12.mono hs11))
            clear hb12 HB11
            go_wp2_with fail
            go_ret
            exact ⟨rfl, HB2.out.trans (HB12.out.mono hs2)⟩
          · have HY10 := Lib.hid hy10
            have HB10 := Lib.hid (HB9.out.trans (HY9.out.foot hf10 hs9))
            have hs10 : w2.heap.size ≤ w10.heap.size := Nat.le_trans hs9 hf10.size
            have HR10 : Hid (w10.ownsRow wr.heap.size 37 3 (.slice Aa (view s).length ca) (view s).length ((view s).flatMap latC)) := Lib.hid (own_kept HR9.out (fun k hk => by
              obtain ⟨cs, hc⟩ := own_obj HR9.out hk
              exact (HY9.out.far hf10 hc (by decide) (by decide)).trans hc.symm))
            clear hy10 hf10 HY9 HB9 HR9 HO9
            go_wp2_with fail
            refine (All_any w2.heap.size gy vy z1 z2 _ s7 w10 HY10.out hl7).mono ?_
            rintro e w11 ⟨vd, rfl, hrd, hb11⟩
            obtain ⟨Ad, cd, rfl⟩ := own_form hrd
            have HRD : Hid (LatsAt w11 (view s) (.slice Ad (view s7).length cd)) := Lib.hid (by have := lats_row hrd; rw [HVW.out] at this ⊢; exact this)
            have HR11 := Lib.hid (HR10.out.kept (grown_of_below hb11) (own_none _))
            have HB11 := Lib.hid (HB10.out.trans (hb11.mono hs10))
            have hs11 : w2.heap.size ≤ w11.heap.size := Nat.le_trans hs10 hb11.size
            clear hrd hb11 HY10 HB10 HR10
            go_wp2_with fail
            refine (Same_any (view s) _ _ w11 HRD.out (lats_row HR11.out) hvL).mono ?_
            rintro e w12 ⟨rfl, hb12⟩
            have HB12 := Lib.hid (HB11.out.trans (hb12.mono hs11))
            clear hb12 HB11
            go_wp2_with fail
            go_ret
            exact ⟨rfl, HB2.out.trans (HB12.out.mono hs2)⟩
        · exact absurd (by rw [grps_fresh, ← HGS.out]; exact HV.out) hnv
  · go_wp2_with fail
    go_ret
    exact ⟨rfl, HB2.out.trans (HA.out.below.1.mono hs2)⟩
end Go.Proofs.Ytcaobjmngdlklaa
