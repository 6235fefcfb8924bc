/-
  The document's Load, walked.
-/
import Derived.Test.YtcaobjmngdlklaaLatchRTrip
namespace Go.Proofs.Ytcaobjmngdlklaa
open Go.RowKit
/-- the document's Load's answer -/
def RLoadPost (gs : List Int) (L l : List Lat) (B g : Nat) (w : World) (e : Ending) (w' : World) : Prop :=
  (e = .returned (.bool true) ∧ Valid gs l ∧ RAt B g gs l w' ∧ ROth B w w') ∨ (e = .returned (.bool false) ∧ ¬ Valid gs l ∧ RAt B g gs L w' ∧ ROth B w w')
/-- none ahead is first in the same group -/
def Alone (gs : List Int) (l : List Lat) (k : Nat) (x : Lat) (m : Nat) : Prop := ∀ (j : Nat) (y : Lat), j < m → l[j]? = some y → ¬ (x.first = true ∧ y.first = true ∧ gs.getD j 0 = gs.getD k 0)
theorem alone_step {gs : List Int} {l : List Lat} {k m : Nat} {x y : Lat} (h : Alone gs l k x m) (hy : l[m]? = some y) (hn : ¬ (x.first = true ∧ y.first = true ∧ gs.getD m 0 = gs.getD k 0)) : Alone gs l k x (m + 1) := by
  intro j z hj hz
  by_cases e : j = m
  · subst e; rw [hy] at hz; injection hz with hz; subst hz; exact hn
  · exact h j z (by omega) hz
def AloneAt (gs : List Int) (l : List Lat) (k m : Nat) : Prop := ∀ x, l[k]? = some x → Alone gs l k x m
theorem aloneAt_step {gs : List Int} {l : List Lat} {k m : Nat} {x y : Lat} (h : AloneAt gs l k m) (hx : l[k]? = some x) (hy : l[m]? = some y) (hn : ¬ (x.first = true ∧ y.first = true ∧ gs.getD m 0 = gs.getD k 0)) : AloneAt gs l k (m + 1) := by
  intro z hz
  rw [hx] at hz
  injection hz with hz
  subst hz
  exact alone_step (h x hx) hy hn
theorem alone_ok {gs : List Int} {l : List Lat} {k : Nat} {x : Lat} (h : Alone gs l k x k) (h0 : x.set = false → x = ⟨false, 0, false⟩) (hg : x.first = true → gs.getD k 0 ≠ 0) : okAt gs l k x :=
  ⟨h0, fun hf => ⟨hg hf, fun j y hj hy hyf e => h j y hj hy ⟨hf, hyf, e⟩⟩⟩
/-- a row made anew, then the store of the field -/
theorem RVt.anew {B g : Nat} {gs : List Int} {L l : List Lat} {vG vL v' : Value} {w w2 : World} {ob : Obj} (h : RVt B g gs L vG vL w) (hB : B ≤ w.heap.size)
    (ho : w2.ownsRow B 37 3 v' l.length (l.flatMap latC)) (hg : (w.alloc ob).grownBy w2 (some w.heap.size)) :
    (Words.Blk w2 g 52 #[vG, vL] ∧ RVt B g gs l vG v' (w2.setCell ⟨g, 1, none⟩ v')) ∧ ROth B w (w2.setCell ⟨g, 1, none⟩ v') := by
  have hgl : g < w.heap.size := Words.Blk.lt h.1
  have hb : Words.Blk w2 g 52 #[vG, vL] := (h.1.alloc ob).grown hg (by simp; omega)
  have hbo : w2.heap[g]? = some (Obj.cells #[vG, vL] 52 (0, 0)) := hb
  have hfar : ∀ m, m ≠ g → (w2.setCell ⟨g, 1, none⟩ v').heap[m]? = w2.heap[m]? := fun m hm => Below.heap_setCell _ ⟨g, 1, none⟩ _ _ hm
  have hG : w2.ownsRow B 3 1 vG gs.length (gs.flatMap nC) := (h.2.1.alloc ob).kept hg (.inr (by intro e; have := (h.2.1.lt _ e).2; omega))
  have hne : ∀ {e : TypeId} {size n : Nat} {v : Value} {xs : List Value}, w2.ownsRow B e size v n xs → e ≠ 52 → ∀ k, v.ownBlock = some k → k ≠ g := by
    intro e size n v xs hr he k hk hkg
    subst hkg
    obtain ⟨cs, hc⟩ := own_obj hr hk
    rw [hbo] at hc; injection hc with e2; injection e2 with _ e2; exact he e2.symm
  refine ⟨⟨hb, hb.set_ 1 v', own_kept hG (fun k hk => hfar k (hne hG (by decide) k hk)), own_kept ho (fun k hk => hfar k (hne ho (by decide) k hk)), h.2.2.2⟩, ?_⟩
  have h1 : ROth B w w2 := ⟨((Below.refl _ _).alloc hB ob).grown hg (by simp; omega) (fun k hk => by injection hk with hk; omega), fun k x hk _ _ => by
    rw [hg.block k (by have := (Array.getElem?_eq_some_iff.1 hk).1; simp; omega) (by have := (Array.getElem?_eq_some_iff.1 hk).1; simp; omega), Below.heap_alloc _ _ _ (Array.getElem?_eq_some_iff.1 hk).1]
    exact hk⟩
  exact h1.trans (ROth.set_ hbo (.inl rfl) h.2.2.2 1 v')
set_option maxRecDepth 100000 in
theorem RLoad_len (B g : Nat) (gs : List Int) (L : List Lat) (w : World) (h : RAt B g gs L w) (n c : Nat) (A : Option Addr) (hne : n ≠ L.length) :
    Calls Try.prog 13 #[.pointer (some ⟨g, 0, none⟩), .slice A n c] w fun e w' => e = .returned (.bool false) ∧ w = w' := by
  obtain ⟨vG, vL, h⟩ := h
  obtain ⟨A0, c0, e⟩ := own_form h.2.2.1
  subst e
  have x0 : w.cell? ⟨g, 1, none⟩ = some (.slice A0 L.length c0) := h.1.cell 1
  have hn : ((n : Int) == (L.length : Int)) = false := by simp; omega
  clear h hne
  go_enter Try.func13, Try.ntmps13
  go_wp2_with fail
  go_ret
  exact ⟨rfl, rfl⟩
theorem rload_no {gs : List Int} {L l : List Lat} {B g : Nat} {vG vL : Value} {w w' : World} (h : RVt B g gs L vG vL w') (hnv : ¬ Valid gs l) (hb : ROth B w w') : RLoadPost gs L l B g w (.returned (.bool false)) w' :=
  .inr ⟨rfl, hnv, ⟨_, _, h⟩, hb⟩
set_option maxHeartbeats 4000000 in
set_option maxRecDepth 100000 in
theorem RLoad_walk (B g : Nat) (gs : List Int) (L : List Lat) (w : World) (h : RAt B g gs L w) (hgl : L.length = gs.length) (hL : L.length ≤ 1000000) (l : List Lat) (v2 : Value) (hl : LatsAt w l v2) (hB : B ≤ w.heap.size) (hn : l.length = L.length) :
    Calls Try.prog 13 #[.pointer (some ⟨g, 0, none⟩), v2] w (RLoadPost gs L l B g w) := by
  obtain ⟨i0, hi0, hz0, hz1, hz2⟩ := info_parts lat_info
  obtain ⟨vG, vL, h⟩ := h
  obtain ⟨A0, c0, e⟩ := own_form h.2.2.1
  subst e
  obtain ⟨AG, cG, e⟩ := own_form h.2.1
  subst e
  have hcG := own_cap h.2.1
  have hv := hl
  obtain ⟨A, c, rfl, hc, -⟩ := hv
  have x1 : w.cell? ⟨g, 1, none⟩ = some (.slice A0 L.length c0) := h.1.cell 1
  rw [← hn] at x1
  have HLL := Lib.hid hl
  have HR0 := Lib.hid h
  have HN := Lib.hid hn
  have HGL := Lib.hid hgl
  have hlg : l.length ≤ gs.length := by omega
  have hl1 : l.length ≤ 1000000 := by omega
  have HO := Lib.hid (one_lats l)
  clear h hl hn hgl hL
  go_enter Try.func13, Try.ntmps13
  go_wp2_with fail
  clear x1
  go_loopw [5] (fun i wr => ∃ k : Nat, k ≤ l.length ∧ i = .int .i64 k ∧ Hid (okUpto gs l k) ∧ Hid (RVt B g gs L (.slice AG gs.length cG) (.slice A0 L.length c0) wr) ∧ Hid (ROth B w wr ∧ Below w.heap.size w wr)) (fun i _ => l.length - (intOf i).toNat)
  case atStart => exact ⟨0, Nat.zero_le _, rfl, okUpto_zero _ _, HR0.out, ROth.refl _, Below.refl _ _⟩
  case round =>
    obtain ⟨k, hk, rfl, HOK, HR, HW⟩ := hrel
    by_cases hlt : k < l.length
    · obtain ⟨x, hx⟩ : ∃ x, l[k]? = some x := ⟨_, List.getElem?_eq_getElem hlt⟩
      obtain ⟨gr, hgr⟩ : ∃ u, gs[k]? = some u := ⟨_, List.getElem?_eq_getElem (by omega)⟩
      obtain ⟨bx, off', c', hv, hbl, hcell⟩ := (LawFrame.RowsAt.below HLL.out HW.out.2).at_ hx
      have y0 := hcell 0 _ rfl
      have y1 := hcell 1 _ rfl
      have y2 := hcell 2 _ rfl
      simp only [Nat.add_zero] at y0
      injection hv with hA e3 e4
      subst hA
      obtain ⟨bG, cG', eb, hcb⟩ := own_some HR.out.2.1 (i := k) (by omega)
      injection eb with eA _ ec
      subst eA ec
      have z0 : wr.cell? ⟨g, 0, none⟩ = some (.slice (some ⟨bG, 0, none⟩) gs.length cG) := HR.out.1.cell 0
      have z1 : wr.cell? ⟨bG, k, none⟩ = some (.int .i64 gr) := by have := row_cell nC_len HR.out.2.1 hgr (d := 0) rfl; simpa using this
      have HG := Lib.hid (show gs.getD k 0 = gr by rw [List.getD_eq_getElem?_getD, hgr]; rfl)
      have HX := Lib.hid hx
      have hkg : (k : Int) < (gs.length : Int) := by omega
      have hk0 : (0 : Int) ≤ (k : Int) := by omega
      have hkl : (k : Int) < (l.length : Int) := by omega
      clear hcell e3 e4 hx hgr
      obtain ⟨xs, xt, xf⟩ := x
      simp only at y0 y1 y2
      have hcs : (xs = false ∧ (xt == 0) = false) ∨ (xs = false ∧ (xt == 0) = true ∧ xf = true) ∨ (xs = true ∧ xf = true ∧ (gr == 0) = true) ∨ Hid (okAt gs [] k ⟨xs, xt, xf⟩) ∧ ((xs = false ∧ (xt == 0) = true ∧ xf = false) ∨ (xs = true ∧ xf = false) ∨ (xs = true ∧ xf = true ∧ (gr == 0) = false)) := by
        rcases xs with _ | _
        · by_cases e : xt = 0
          · rcases xf with _ | _
            · exact .inr (.inr (.inr ⟨Lib.hid ⟨fun _ => by rw [e], fun h => (by cases h)⟩, .inl ⟨rfl, by simp [e], rfl⟩⟩))
            · exact .inr (.inl ⟨rfl, by simp [e], rfl⟩)
          · exact .inl ⟨rfl, by simp [e]⟩
        · rcases xf with _ | _
          · exact .inr (.inr (.inr ⟨Lib.hid ⟨fun h => (by cases h), fun h => (by cases h)⟩, .inr (.inl ⟨rfl, rfl⟩)⟩))
          · by_cases e : gr = 0
            · exact .inr (.inr (.inl ⟨rfl, rfl, by simp [e]⟩))
            · exact .inr (.inr (.inr ⟨Lib.hid ⟨fun h => (by cases h), fun _ => ⟨by rw [HG.out]; exact e, fun j y _ hy => (by simp at hy)⟩⟩, .inr (.inr ⟨rfl, rfl, by simp [e]⟩)⟩))
      rcases hcs with ⟨rfl, ht⟩ | ⟨rfl, ht, rfl⟩ | ⟨rfl, rfl, hg0⟩ | ⟨HOA, hcs⟩
      · have HNV := Lib.hid (not_valid HX.out (gs := gs) (fun ho => by have := ho.1 rfl; injection this with _ h1 _; simp [h1] at ht))
        go_wp2_with fail
        go_ret
        exact rload_no HR.out HNV.out HW.out.1
      · have HNV := Lib.hid (not_valid HX.out (gs := gs) (fun ho => by have := ho.1 rfl; injection this with _ _ h1; cases h1))
        go_wp2_with fail
        go_ret
        exact rload_no HR.out HNV.out HW.out.1
      · have HNV := Lib.hid (not_valid HX.out (gs := gs) (fun ho => (ho.2 rfl).1 (by rw [HG.out]; simpa using hg0)))
        go_wp2_with fail
        go_ret
        exact rload_no HR.out HNV.out HW.out.1
      · have hst : Hid (AloneAt gs l k 0) := Lib.hid (fun x _ j y hj => absurd hj (by omega))
        have h00 := HOA.out.1
        have h01 := HOA.out.2
        have HOB : Hid (∀ x, l[k]? = some x → (x.set = false → x = ⟨false, 0, false⟩) ∧ (x.first = true → gs.getD k 0 ≠ 0)) := Lib.hid (fun z hz => by rw [HX.out] at hz; injection hz with hz; subst hz; exact ⟨h00, fun hf => (h01 hf).1⟩)
        clear h00 h01 HOA
        rcases hcs with ⟨rfl, ht, rfl⟩ | ⟨rfl, rfl⟩ | ⟨rfl, rfl, hg0⟩
        all_goals
          go_wp2_with fail
          clear y0 y1 y2 z0 z1
          obtain ⟨wo, rfl⟩ : ∃ wo : World, wo = wr := ⟨_, rfl⟩
          go_loopw [6] (fun i wr => ∃ j : Nat, j ≤ k ∧ i = .int .i64 j ∧ Hid (AloneAt gs l k j) ∧ Hid (RVt B g gs L (.slice (some ⟨bG, 0, none⟩) gs.length cG) (.slice A0 L.length c0) wr) ∧ Hid (ROth B w wr ∧ Below w.heap.size w wr)) (fun i _ => l.length - (intOf i).toNat)
          case atStart => exact ⟨0, Nat.zero_le _, rfl, hst, HR, HW⟩
          case round =>
            clear HR HW hst
            obtain ⟨j, hj, rfl, HAL, HR, HW⟩ := hrel
            by_cases hjk : j < k
            · obtain ⟨y, hy⟩ : ∃ y, l[j]? = some y := ⟨_, List.getElem?_eq_getElem (by omega)⟩
              obtain ⟨u, hu⟩ : ∃ u, gs[j]? = some u := ⟨_, List.getElem?_eq_getElem (by omega)⟩
              obtain ⟨gr', hgr⟩ : ∃ u, gs[k]? = some u := ⟨_, List.getElem?_eq_getElem (by omega)⟩
              obtain ⟨bx2, off2, c2, hv, -, hcell⟩ := (LawFrame.RowsAt.below HLL.out HW.out.2).at_ HX.out
              have y2 := hcell 2 _ rfl
              injection hv with hA _ _
              injection hA with hA
              injection hA with hA1 hA2 _
              subst hA1 hA2
              obtain ⟨bx2, off2, c2, hv, -, hcell⟩ := (LawFrame.RowsAt.below HLL.out HW.out.2).at_ hy
              have w2 := hcell 2 _ rfl
              injection hv with hA _ _
              injection hA with hA
              injection hA with hA1 hA2 _
              subst hA1 hA2
              have z0 : wr.cell? ⟨g, 0, none⟩ = some (.slice (some ⟨bG, 0, none⟩) gs.length cG) := HR.out.1.cell 0
              have z1 : wr.cell? ⟨bG, k, none⟩ = some (.int .i64 gr') := by have := row_cell nC_len HR.out.2.1 hgr (d := 0) rfl; simpa using this
              have z2 : wr.cell? ⟨bG, j, none⟩ = some (.int .i64 u) := by have := row_cell nC_len HR.out.2.1 hu (d := 0) rfl; simpa using this
              have HY := Lib.hid hy
              have HU1 := Lib.hid (show gs.getD j 0 = u by rw [List.getD_eq_getElem?_getD, hu]; rfl)
              have HU2 := Lib.hid (show gs.getD k 0 = gr' by rw [List.getD_eq_getElem?_getD, hgr]; rfl)
              have hj0 : (0 : Int) ≤ (j : Int) := by omega
              have hjg : (j : Int) < (gs.length : Int) := by omega
              have hjl : (j : Int) < (l.length : Int) := by omega
              have hjk2 : (j : Int) < (k : Int) := by omega
              clear hcell hy hu hgr
              obtain ⟨ys, yt, yf⟩ := y
              have hcs : (yf = true ∧ (gr' == u) = true) ∨ Hid (¬ (yf = true ∧ gs.getD j 0 = gs.getD k 0)) ∧ (yf = false ∨ (yf = true ∧ (gr' == u) = false)) := by
                rcases yf with _ | _
                · exact .inr ⟨Lib.hid (fun h => by cases h.1), .inl rfl⟩
                · by_cases e : gr' = u
                  · exact .inl ⟨rfl, by simp [e]⟩
                  · exact .inr ⟨Lib.hid (fun h => e (by rw [← HU2.out, ← h.2, HU1.out])), .inr ⟨rfl, by simp [e]⟩⟩
              simp only at y2 w2
              rcases hcs with ⟨rfl, hg1⟩ | ⟨HNB, hcs⟩
              · go_upto_region 11 with fail
                go_quiet (fail)
                have HR1 := Lib.hid (HR.out.drewN nq)
                have HW1 := Lib.hid (And.intro (HW.out.1.trans (ROth.drewN wr nq)) (below_drewn HW.out.2 nq))
                clear y2 w2 z0 z1 z2 HR HW
                generalize wr.drewN nq = wa at *
                go_wp2_with fail
                first
                  | (go_roundw
                     case rel => exact ⟨j + 1, by omega, by go_num, Lib.hid (aloneAt_step HAL.out HX.out HY.out (fun h => by cases h.1)), HR1, HW1⟩
                     case measure => simp [intOf]; omega)
                  | (go_ret
                     exact rload_no HR1.out (not_valid HX.out (fun ho => (ho.2 rfl).2 j _ hjk HY.out rfl (by rw [HU1.out, HU2.out]; exact (by simpa using hg1 : gr' = u).symm))) HW1.out.1)
              · rcases hcs with rfl | ⟨rfl, hg1⟩
                all_goals
                  go_upto_region 11 with fail
                  go_quiet (fail)
                  have HR1 := Lib.hid (HR.out.drewN nq)
                  have HW1 := Lib.hid (And.intro (HW.out.1.trans (ROth.drewN wr nq)) (below_drewn HW.out.2 nq))
                  clear y2 w2 z0 z1 z2 HR HW
                  generalize wr.drewN nq = wa at *
                  go_wp2_with fail
                  go_roundw
                  case rel => exact ⟨j + 1, by omega, by go_num, Lib.hid (aloneAt_step HAL.out HX.out HY.out (fun h => HNB.out h.2)), HR1, HW1⟩
                  case measure => simp [intOf]; omega
            · obtain rfl : j = k := by omega
              have HOK2 := Lib.hid (okUpto_step HOK.out HX.out (alone_ok (HAL.out _ HX.out) (HOB.out _ HX.out).1 (HOB.out _ HX.out).2))
              go_wp2_with fail
              go_roundw
              case rel => exact ⟨j + 1, by omega, by go_num, HOK2, HR, HW⟩
              case measure => simp [intOf]; omega
    · obtain rfl : k = l.length := by omega
      have HV := Lib.hid (okUpto_all HOK.out (HN.out.trans HGL.out))
      have x1 : wr.cell? ⟨g, 1, none⟩ = some (.slice A0 L.length c0) := HR.out.1.cell 1
      have hsz := HW.out.2.size
      have hBr : B ≤ wr.heap.size := by omega
      have HRL := Lib.hid (LawFrame.RowsAt.below HLL.out HW.out.2)
      have HS : Hid (Words.Reads wr wr.heap.size 3 A l.length (l.flatMap latC)) := Lib.hid (by
        obtain ⟨A', c', e, -, hr⟩ := LawFrame.RowsAt.reads latC_len (by decide) HRL.out
        injection e with e1 _ _
        subst e1
        exact hr)
      have HN0 := Lib.hid (lit_nil wr 37 3 _ rfl hBr)
      go_wp2_with (at_builtin; refine Words.wpList_append_any _ rfl (.tmp 87) (.tmp 88) _ rfl B 37 i0 _ 3 24 Try.underlying30 hi0 hz0 hz1 hz2 rfl (by omega) (.slice (some ⟨wr.heap.size, 0, none⟩) 0 0) 0 [] rfl HN0.out wr.heap.size A l.length c (l.flatMap latC) rfl (HS.out.alloc (Nat.le_refl _) _) HO.out (by simp only [maxLen]; omega) (by omega) (by simp; omega) ?_; intro v' w2 ho hg hat; rw [Nat.zero_add, List.nil_append] at ho; obtain ⟨A', c', rfl⟩ := own_form ho; have HE := Lib.hid (HR.out.anew hBr ho hg); clear ho hg hat; have c1' := HE.out.1.1.cell 1; have f1 := HE.out.1.1.frozen 1; have c1'' : w2.cell? ⟨g, 1, none⟩ = some (.slice A0 L.length c0) := c1')
      go_ret
      exact .inl ⟨rfl, HV.out, ⟨_, _, HE.out.1.2⟩, HW.out.1.trans HE.out.2⟩
theorem RLoad_any (B g : Nat) (gs : List Int) (L : List Lat) (w : World) (h : RAt B g gs L w) (hgl : L.length = gs.length) (hL : L.length ≤ 1000000) (l : List Lat) (v2 : Value) (hl : LatsAt w l v2) (hB : B ≤ w.heap.size) :
    Calls Try.prog 13 #[.pointer (some ⟨g, 0, none⟩), v2] w (RLoadPost gs L l B g w) := by
  by_cases hn : l.length = L.length
  · exact RLoad_walk B g gs L w h hgl hL l v2 hl hB hn
  · obtain ⟨A, c, rfl, hc, -⟩ := hl
    refine (RLoad_len B g gs L w h l.length c A hn).mono ?_
    rintro e w' ⟨rfl, rfl⟩
    exact .inr ⟨rfl, fun hv => hn (by rw [hv.1, hgl]), h, ROth.refl _⟩
end Go.Proofs.Ytcaobjmngdlklaa
