/-
  The document's Trip, walked.
-/
import Derived.Test.YtcaobjmngdlklaaLatchRNew
namespace Go.Proofs.Ytcaobjmngdlklaa
open Go.RowKit
theorem RVt.drewN {B g : Nat} {gs : List Int} {L : List Lat} {vG vL : Value} {w : World} (h : RVt B g gs L vG vL w) (n : Nat) : RVt B g gs L vG vL (w.drewN n) := h
theorem ROth.drewN {B : Nat} (w : World) (n : Nat) : ROth B w (w.drewN n) := ⟨⟨rfl, rfl, rfl, Nat.le_refl _, fun _ _ => rfl⟩, fun _ _ h _ _ => h⟩
theorem RVt.drew {B g : Nat} {gs : List Int} {L : List Lat} {vG vL : Value} {w : World} (h : RVt B g gs L vG vL w) : RVt B g gs L vG vL w.drew := h
theorem ROth.drew {B : Nat} (w : World) : ROth B w w.drew := ⟨⟨rfl, rfl, rfl, Nat.le_refl _, fun _ _ => rfl⟩, fun _ _ h _ _ => h⟩
theorem ROth.refl {B : Nat} (w : World) : ROth B w w := ⟨Below.refl _ _, fun _ _ h _ _ => h⟩
/-- is one of a group set, of so many? -/
def Others (gs : List Int) (L : List Lat) (gr : Int) (k : Nat) : Prop := ∃ (j : Nat) (y : Lat), j < k ∧ L[j]? = some y ∧ y.set = true ∧ gs.getD j 0 = gr
theorem others_step {gs : List Int} {L : List Lat} {gr : Int} {k : Nat} {y : Lat} (hy : L[k]? = some y) : Others gs L gr (k + 1) ↔ Others gs L gr k ∨ (y.set = true ∧ gs.getD k 0 = gr) := by
  constructor
  · rintro ⟨j, z, h1, h2, h3, h4⟩
    by_cases e : j = k
    · subst e; rw [hy] at h2; injection h2 with h2; subst h2; exact .inr ⟨h3, h4⟩
    · exact .inl ⟨j, z, by omega, h2, h3, h4⟩
  · rintro (⟨j, z, h1, h2⟩ | ⟨h1, h2⟩)
    · exact ⟨j, z, by omega, h2⟩
    · exact ⟨k, y, by omega, hy, h1, h2⟩
set_option maxRecDepth 100000 in
theorem RTrip_no (B g : Nat) (gs : List Int) (L : List Lat) (w : World) (h : RAt B g gs L w) (i now : Int) (hi : ¬ (0 ≤ i ∧ i < L.length) ∨ (ratL L i).set = true) :
    Calls Try.prog 15 #[.pointer (some ⟨g, 0, none⟩), .int .i64 i, .int .i64 now] w fun e w' => e = .returned (.bool false) ∧ w = w' := by
  have H := Lib.hid h
  rcases rat_cases L i with ⟨hi', e⟩ | ⟨k, x, rfl, hx, e⟩
  · have hd : decide (0 ≤ i ∧ i < (L.length : Int)) = false := decide_eq_false hi'
    have HD := Lib.hid hd
    clear h hd hi hi' e
    go_enter Try.func15, Try.ntmps15
    go_wp2_with fail
    refine (there_any B g gs L _ H.out i).mono ?_
    rintro e w1 ⟨rfl, rfl⟩
    rw [HD.out]
    go_wp2_with fail
    go_ret
    exact ⟨rfl, rfl⟩
  · have hk : k < L.length := (List.getElem?_eq_some_iff.1 hx).1
    have hs : x.set = true := by
      rcases hi with hi | hi
      · exact absurd ⟨by omega, by omega⟩ hi
      · rw [e] at hi; exact hi
    obtain ⟨vG, vL, h⟩ := h
    obtain ⟨b, c, e', hc⟩ := own_some h.2.2.1 hk
    subst e'
    have c1 : w.cell? ⟨g, 1, none⟩ = some (.slice (some ⟨b, 0, none⟩) L.length c) := h.1.cell 1
    obtain ⟨⟨x0, x1, x2⟩, -, -, -⟩ := row_facts h.2.2.1 hx
    rw [hs] at x0
    have hd : decide (0 ≤ (k : Int) ∧ (k : Int) < (L.length : Int)) = true := decide_eq_true (by omega)
    have HD := Lib.hid hd
    clear h hd hx hi e hs
    go_enter Try.func15, Try.ntmps15
    go_wp2_with fail
    refine (there_any B g gs L _ H.out k).mono ?_
    rintro e w1 ⟨rfl, rfl⟩
    rw [HD.out]
    go_wp2_with fail
    go_ret
    exact ⟨rfl, rfl⟩
theorem RVt.facts2 {B g b c bG cG n : Nat} {gs : List Int} {L : List Lat} {k : Nat} {x : Lat} {gr : Int} {w : World} (h : RVt B g gs L (.slice (some ⟨bG, 0, none⟩) gs.length cG) (.slice (some ⟨b, 0, none⟩) n c) w) (hn : n = L.length) (hx : L[k]? = some x) (hg : gs[k]? = some gr) :
    w.cell? ⟨g, 0, none⟩ = some (.slice (some ⟨bG, 0, none⟩) gs.length cG) ∧ w.cell? ⟨g, 1, none⟩ = some (.slice (some ⟨b, 0, none⟩) n c) ∧ w.cell? ⟨bG, k, none⟩ = some (.int .i64 gr) ∧
    w.cell? ⟨b, k * 3, none⟩ = some (.bool x.set) ∧ w.cell? ⟨b, k * 3 + 1, none⟩ = some (.int .i64 x.at_) ∧ w.cell? ⟨b, k * 3 + 2, none⟩ = some (.bool x.first) ∧
    w.frozen? ⟨b, k * 3, none⟩ = false ∧ w.frozen? ⟨b, k * 3 + 1, none⟩ = false ∧ w.frozen? ⟨b, k * 3 + 2, none⟩ = false := by
  subst hn
  obtain ⟨⟨h0, h1⟩, h2, h3, h4, h5⟩ := h.facts hx hg
  obtain ⟨-, f0, f1, f2⟩ := row_facts h.2.2.1 hx
  exact ⟨h0, h1, h2, h3, h4, h5, f0, f1, f2⟩
/-- one is the first one no more: one store -/
theorem RVt.flip {B g b c : Nat} {gs : List Int} {L : List Lat} {vG : Value} {f : Nat} {z : Lat} {w : World} (h : RVt B g gs L vG (.slice (some ⟨b, 0, none⟩) L.length c) w) (hz : L[f]? = some z) :
    RVt B g gs (L.set f ⟨z.set, z.at_, false⟩) vG (.slice (some ⟨b, 0, none⟩) L.length c) (w.setCell ⟨b, f * 3 + 2, none⟩ (.bool false)) ∧ ROth B w (w.setCell ⟨b, f * 3 + 2, none⟩ (.bool false)) := by
  obtain ⟨cs, hcs⟩ := own_obj h.2.2.1 (k := b) rfl
  have hbB := (h.2.2.1.lt b rfl).1
  have hgb : g ≠ b := by
    rintro rfl
    have := h.1
    unfold Words.Blk at this
    rw [hcs] at this; injection this with e; injection e with _ e; cases e
  have hfar : ∀ m, m ≠ b → (w.setCell ⟨b, f * 3 + 2, none⟩ (.bool false)).heap[m]? = w.heap[m]? := fun m hm => Below.heap_setCell _ ⟨b, f * 3 + 2, none⟩ _ _ hm
  obtain ⟨r1, g1⟩ := h.2.2.1.stored (f * 3 + 2) (.bool false)
  rw [flat_set latC_len L f z ⟨z.set, z.at_, false⟩ 2 (.bool false) hz (by decide) rfl] at r1
  refine ⟨⟨(hfar g hgb).trans h.1, own_kept h.2.1 (fun m hm => hfar m ?_), ?_, h.2.2.2⟩, ROth.set_ hcs (.inr rfl) hbB _ _⟩
  · rintro rfl
    obtain ⟨cs', h'⟩ := own_obj h.2.1 hm
    rw [hcs] at h'; injection h' with e; injection e with _ e; cases e
  · rw [List.length_set]; exact r1
set_option maxHeartbeats 2000000 in
set_option maxRecDepth 100000 in
theorem RTrip_a (B g : Nat) (gs : List Int) (L : List Lat) (w : World) (h : RAt B g gs L w) (hl : L.length = gs.length) (hL : L.length ≤ 1000000) (k : Nat) (now gr : Int) (x : Lat) (hx : L[k]? = some x) (hs : x.set = false) (hgr : gs[k]? = some gr)
    (hfn : ∀ (i : Nat) (y : Lat), L[i]? = some y → y.first = true → gs.getD i 0 ≠ gr) (hot : ¬ Others gs L gr L.length) (hg0 : gr ≠ 0) :
    Calls Try.prog 15 #[.pointer (some ⟨g, 0, none⟩), .int .i64 k, .int .i64 now] w fun e w' => e = .returned (.bool true) ∧ RAt B g gs (L.set k ⟨true, now, true⟩) w' ∧ ROth B w w' := by
  have hk : k < L.length := (List.getElem?_eq_some_iff.1 hx).1
  have H := Lib.hid h
  have HFN := Lib.hid hfn
  have HOT := Lib.hid hot

  have HX := Lib.hid hx
  have HS := Lib.hid hs
  have HGR := Lib.hid hgr
  have hgb : (gr == 0) = false := by simpa using hg0
  have hgn : (gr != 0) = true := by simpa using hg0
  have HG0 := Lib.hid hg0
  clear hg0
  obtain ⟨vG, vL, h⟩ := h
  obtain ⟨bG, cG, b, c, e1, e2, hcG, hc⟩ := h.forms hl (by omega)
  have HLL := Lib.hid hl
  have hl1 : L.length ≤ gs.length := by omega
  clear hl
  subst e1 e2
  obtain ⟨⟨c0, c1⟩, z0, x0, x1, x2⟩ := h.facts hx hgr
  rw [hs] at x0
  have hd : decide (0 ≤ (k : Int) ∧ (k : Int) < (L.length : Int)) = true := decide_eq_true (by omega)
  have HD := Lib.hid hd
  have HR0 := Lib.hid h
  clear h hd hx hs hgr hfn hot
  go_enter Try.func15, Try.ntmps15
  go_wp2_with fail
  refine (there_any B g gs L _ H.out k).mono ?_
  rintro e w1 ⟨rfl, rfl⟩
  rw [HD.out]
  go_wp2_with fail
  clear c0 c1 z0 x0 x1 x2
  have hkl : (k : Int) < (gs.length : Int) := by omega
  have hkL : (k : Int) < (L.length : Int) := by omega
  have hk0 : (0 : Int) ≤ (k : Int) := by omega
  go_loopw [7, 8] (fun b7 i wr => ∃ (j : Nat) (bo : Bool), j ≤ L.length ∧ i = .int .i64 j ∧ b7 = .bool bo ∧ Hid (bo = true ↔ Others gs L gr j) ∧ Hid (RVt B g gs L (.slice (some ⟨bG, 0, none⟩) gs.length cG) (.slice (some ⟨b, 0, none⟩) L.length c) wr) ∧ Hid (ROth B w wr)) (fun _ i _ => L.length - (intOf i).toNat)
  case atStart => exact ⟨0, false, Nat.zero_le _, rfl, rfl, ⟨fun h => (by cases h), fun ⟨j, y, h, _⟩ => absurd h (by omega)⟩, HR0.out, ROth.refl _⟩
  case round =>
    obtain ⟨j, bo, hj, rfl, rfl, HBO, HR, HW⟩ := hrel
    have c1 : wr.cell? ⟨g, 1, none⟩ = some (.slice (some ⟨b, 0, none⟩) L.length c) := HR.out.1.cell 1
    by_cases hlt : j < L.length
    · obtain ⟨y, hy⟩ : ∃ y, L[j]? = some y := ⟨_, List.getElem?_eq_getElem hlt⟩
      obtain ⟨u, hu⟩ : ∃ u, gs[j]? = some u := ⟨_, List.getElem?_eq_getElem (by omega)⟩
      obtain ⟨⟨c0, -⟩, z0, -⟩ := HR.out.facts HX.out HGR.out
      obtain ⟨-, z1, y0, -⟩ := HR.out.facts hy hu
      have hj0 : (0 : Int) ≤ (j : Int) := by omega
      have hjl : (j : Int) < (gs.length : Int) := by omega
      have hjL : (j : Int) < (L.length : Int) := by omega
      have HST := Lib.hid (others_step (gr := gr) (gs := gs) hy)
      have huj : gs.getD j 0 = u := by rw [List.getD_eq_getElem?_getD, hu]; rfl
      rw [huj] at HST
      clear hy hu huj
      have hcs : bo = true ∨ (bo = false ∧ y.set = false) ∨ (bo = false ∧ y.set = true ∧ (u == gr) = true) ∨ (bo = false ∧ y.set = true ∧ (u == gr) = false) := by
        rcases bo with _ | _
        · rcases y.set with _ | _
          · exact .inr (.inl ⟨rfl, rfl⟩)
          · by_cases e : u = gr
            · exact .inr (.inr (.inl ⟨rfl, rfl, by simp [e]⟩))
            · exact .inr (.inr (.inr ⟨rfl, rfl, by simp [e]⟩))
        · exact .inl rfl
      rcases hcs with rfl | ⟨rfl, hys⟩ | ⟨rfl, hys, hu⟩ | ⟨rfl, hys, hu⟩
      · go_upto_region 7 with fail
        go_quiet (fail)
        have HR1 := Lib.hid (HR.out.drewN nq)
        have HW1 := Lib.hid (HW.out.trans (ROth.drewN wr nq))
        clear c0 c1 z0 z1 y0 HR HW
        generalize wr.drewN nq = wa at *
        go_wp2_with fail
        go_roundw
        case rel => exact ⟨j + 1, true, by omega, by go_num, rfl, Lib.hid (by rw [HST.out]; exact ⟨fun _ => .inl (HBO.out.1 rfl), fun _ => rfl⟩), HR1, HW1⟩
        case measure => simp [intOf]; omega
      · have HYS := Lib.hid hys
        rw [hys] at y0
        clear hys
        go_upto_region 7 with fail
        go_quiet (fail)
        have HR1 := Lib.hid (HR.out.drewN nq)
        have HW1 := Lib.hid (HW.out.trans (ROth.drewN wr nq))
        clear c0 c1 z0 z1 y0 HR HW
        generalize wr.drewN nq = wa at *
        go_wp2_with fail
        go_roundw
        case rel => exact ⟨j + 1, false, by omega, by go_num, rfl, Lib.hid (by rw [HST.out]; exact ⟨fun h => (by cases h), fun h => (by rcases h with h | ⟨h, _⟩; exact HBO.out.2 h; rw [HYS.out] at h; cases h)⟩), HR1, HW1⟩
        case measure => simp [intOf]; omega
      · have HYS := Lib.hid hys
        rw [hys] at y0
        have HU := Lib.hid (show u = gr by simpa using hu)
        clear hys
        go_upto_region 7 with fail
        go_quiet (fail)
        have HR1 := Lib.hid (HR.out.drewN nq)
        have HW1 := Lib.hid (HW.out.trans (ROth.drewN wr nq))
        clear c0 c1 z0 z1 y0 HR HW
        generalize wr.drewN nq = wa at *
        go_wp2_with fail
        go_roundw
        case rel => exact ⟨j + 1, true, by omega, by go_num, rfl, Lib.hid (by rw [HST.out]; exact ⟨fun _ => .inr ⟨HYS.out, HU.out⟩, fun _ => rfl⟩), HR1, HW1⟩
        case measure => simp [intOf]; omega
      · have HYS := Lib.hid hys
        rw [hys] at y0
        have HU := Lib.hid (show ¬ u = gr by simpa using hu)
        clear hys
        go_upto_region 7 with fail
        go_quiet (fail)
        have HR1 := Lib.hid (HR.out.drewN nq)
        have HW1 := Lib.hid (HW.out.trans (ROth.drewN wr nq))
        clear c0 c1 z0 z1 y0 HR HW
        generalize wr.drewN nq = wa at *
        go_wp2_with fail
        go_roundw
        case rel => exact ⟨j + 1, false, by omega, by go_num, rfl, Lib.hid (by rw [HST.out]; exact ⟨fun h => (by cases h), fun h => (by rcases h with h | ⟨_, h⟩; exact HBO.out.2 h; exact absurd h HU.out)⟩), HR1, HW1⟩
        case measure => simp [intOf]; omega
    · obtain rfl : j = L.length := by omega
      obtain rfl : bo = false := by
        have := HBO.out
        rcases bo with _ | _; rfl; exact absurd (this.1 rfl) HOT.out
      obtain ⟨⟨c0, -⟩, z0, x0, x1, x2⟩ := HR.out.facts HX.out HGR.out


      obtain ⟨-, g0, g1, g2⟩ := row_facts HR.out.2.2.1 HX.out
      go_wp2_with fail
      refine (RFirst_none B g gs L _ ⟨_, _, HR.out⟩ HLL.out hL gr HFN.out).mono ?_
      rintro e wf ⟨rfl, rfl⟩
      go_upto_region 13 with fail
      have HR2 := HR
      have HW2 := HW
      generalize wr = wb at *
      have HE := Lib.hid (HR2.out.put (x := ⟨true, now, true⟩) rfl HX.out)
      go_region
      all_goals go_wp2_with fail
      all_goals go_ret
      all_goals exact ⟨rfl, ⟨_, _, HE.out.1.drew⟩, HW2.out.trans (HE.out.2.trans (ROth.drew _))⟩
set_option maxHeartbeats 2000000 in
set_option maxRecDepth 100000 in
theorem RTrip_a0 (B g : Nat) (gs : List Int) (L : List Lat) (w : World) (h : RAt B g gs L w) (hl : L.length = gs.length) (hL : L.length ≤ 1000000) (k : Nat) (now gr : Int) (x : Lat) (hx : L[k]? = some x) (hs : x.set = false) (hgr : gs[k]? = some gr)
    (hfn : ∀ (i : Nat) (y : Lat), L[i]? = some y → y.first = true → gs.getD i 0 ≠ gr) (hot : ¬ Others gs L gr L.length) (hg0 : gr = 0) :
    Calls Try.prog 15 #[.pointer (some ⟨g, 0, none⟩), .int .i64 k, .int .i64 now] w fun e w' => e = .returned (.bool true) ∧ RAt B g gs (L.set k ⟨true, now, false⟩) w' ∧ ROth B w w' := by
  have hk : k < L.length := (List.getElem?_eq_some_iff.1 hx).1
  have H := Lib.hid h
  have HFN := Lib.hid hfn
  have HOT := Lib.hid hot

  have HX := Lib.hid hx
  have HS := Lib.hid hs
  have HGR := Lib.hid hgr
  have hgb : (gr == 0) = true := by simpa using hg0
  have hgn : (gr != 0) = false := by simpa using hg0
  clear hg0
  obtain ⟨vG, vL, h⟩ := h
  obtain ⟨bG, cG, b, c, e1, e2, hcG, hc⟩ := h.forms hl (by omega)
  have HLL := Lib.hid hl
  have hl1 : L.length ≤ gs.length := by omega
  clear hl
  subst e1 e2
  obtain ⟨⟨c0, c1⟩, z0, x0, x1, x2⟩ := h.facts hx hgr
  rw [hs] at x0
  have hd : decide (0 ≤ (k : Int) ∧ (k : Int) < (L.length : Int)) = true := decide_eq_true (by omega)
  have HD := Lib.hid hd
  have HR0 := Lib.hid h
  clear h hd hx hs hgr hfn hot
  go_enter Try.func15, Try.ntmps15
  go_wp2_with fail
  refine (there_any B g gs L _ H.out k).mono ?_
  rintro e w1 ⟨rfl, rfl⟩
  rw [HD.out]
  go_wp2_with fail
  clear c0 c1 z0 x0 x1 x2
  have hkl : (k : Int) < (gs.length : Int) := by omega
  have hkL : (k : Int) < (L.length : Int) := by omega
  have hk0 : (0 : Int) ≤ (k : Int) := by omega
  go_loopw [7, 8] (fun b7 i wr => ∃ (j : Nat) (bo : Bool), j ≤ L.length ∧ i = .int .i64 j ∧ b7 = .bool bo ∧ Hid (bo = true ↔ Others gs L gr j) ∧ Hid (RVt B g gs L (.slice (some ⟨bG, 0, none⟩) gs.length cG) (.slice (some ⟨b, 0, none⟩) L.length c) wr) ∧ Hid (ROth B w wr)) (fun _ i _ => L.length - (intOf i).toNat)
  case atStart => exact ⟨0, false, Nat.zero_le _, rfl, rfl, ⟨fun h => (by cases h), fun ⟨j, y, h, _⟩ => absurd h (by omega)⟩, HR0.out, ROth.refl _⟩
  case round =>
    obtain ⟨j, bo, hj, rfl, rfl, HBO, HR, HW⟩ := hrel
    have c1 : wr.cell? ⟨g, 1, none⟩ = some (.slice (some ⟨b, 0, none⟩) L.length c) := HR.out.1.cell 1
    by_cases hlt : j < L.length
    · obtain ⟨y, hy⟩ : ∃ y, L[j]? = some y := ⟨_, List.getElem?_eq_getElem hlt⟩
      obtain ⟨u, hu⟩ : ∃ u, gs[j]? = some u := ⟨_, List.getElem?_eq_getElem (by omega)⟩
      obtain ⟨⟨c0, -⟩, z0, -⟩ := HR.out.facts HX.out HGR.out
      obtain ⟨-, z1, y0, -⟩ := HR.out.facts hy hu
      have hj0 : (0 : Int) ≤ (j : Int) := by omega
      have hjl : (j : Int) < (gs.length : Int) := by omega
      have hjL : (j : Int) < (L.length : Int) := by omega
      have HST := Lib.hid (others_step (gr := gr) (gs := gs) hy)
      have huj : gs.getD j 0 = u := by rw [List.getD_eq_getElem?_getD, hu]; rfl
      rw [huj] at HST
      clear hy hu huj
      have hcs : bo = true ∨ (bo = false ∧ y.set = false) ∨ (bo = false ∧ y.set = true ∧ (u == gr) = true) ∨ (bo = false ∧ y.set = true ∧ (u == gr) = false) := by
        rcases bo with _ | _
        · rcases y.set with _ | _
          · exact .inr (.inl ⟨rfl, rfl⟩)
          · by_cases e : u = gr
            · exact .inr (.inr (.inl ⟨rfl, rfl, by simp [e]⟩))
            · exact .inr (.inr (.inr ⟨rfl, rfl, by simp [e]⟩))
        · exact .inl rfl
      rcases hcs with rfl | ⟨rfl, hys⟩ | ⟨rfl, hys, hu⟩ | ⟨rfl, hys, hu⟩
      · go_upto_region 7 with fail
        go_quiet (fail)
        have HR1 := Lib.hid (HR.out.drewN nq)
        have HW1 := Lib.hid (HW.out.trans (ROth.drewN wr nq))
        clear c0 c1 z0 z1 y0 HR HW
        generalize wr.drewN nq = wa at *
        go_wp2_with fail
        go_roundw
        case rel => exact ⟨j + 1, true, by omega, by go_num, rfl, Lib.hid (by rw [HST.out]; exact ⟨fun _ => .inl (HBO.out.1 rfl), fun _ => rfl⟩), HR1, HW1⟩
        case measure => simp [intOf]; omega
      · have HYS := Lib.hid hys
        rw [hys] at y0
        clear hys
        go_upto_region 7 with fail
        go_quiet (fail)
        have HR1 := Lib.hid (HR.out.drewN nq)
        have HW1 := Lib.hid (HW.out.trans (ROth.drewN wr nq))
        clear c0 c1 z0 z1 y0 HR HW
        generalize wr.drewN nq = wa at *
        go_wp2_with fail
        go_roundw
        case rel => exact ⟨j + 1, false, by omega, by go_num, rfl, Lib.hid (by rw [HST.out]; exact ⟨fun h => (by cases h), fun h => (by rcases h with h | ⟨h, _⟩; exact HBO.out.2 h; rw [HYS.out] at h; cases h)⟩), HR1, HW1⟩
        case measure => simp [intOf]; omega
      · have HYS := Lib.hid hys
        rw [hys] at y0
        have HU := Lib.hid (show u = gr by simpa using hu)
        clear hys
        go_upto_region 7 with fail
        go_quiet (fail)
        have HR1 := Lib.hid (HR.out.drewN nq)
        have HW1 := Lib.hid (HW.out.trans (ROth.drewN wr nq))
        clear c0 c1 z0 z1 y0 HR HW
        generalize wr.drewN nq = wa at *
        go_wp2_with fail
        go_roundw
        case rel => exact ⟨j + 1, true, by omega, by go_num, rfl, Lib.hid (by rw [HST.out]; exact ⟨fun _ => .inr ⟨HYS.out, HU.out⟩, fun _ => rfl⟩), HR1, HW1⟩
        case measure => simp [intOf]; omega
      · have HYS := Lib.hid hys
        rw [hys] at y0
        have HU := Lib.hid (show ¬ u = gr by simpa using hu)
        clear hys
        go_upto_region 7 with fail
        go_quiet (fail)
        have HR1 := Lib.hid (HR.out.drewN nq)
        have HW1 := Lib.hid (HW.out.trans (ROth.drewN wr nq))
        clear c0 c1 z0 z1 y0 HR HW
        generalize wr.drewN nq = wa at *
        go_wp2_with fail
        go_roundw
        case rel => exact ⟨j + 1, false, by omega, by go_num, rfl, Lib.hid (by rw [HST.out]; exact ⟨fun h => (by cases h), fun h => (by rcases h with h | ⟨_, h⟩; exact HBO.out.2 h; exact absurd h HU.out)⟩), HR1, HW1⟩
        case measure => simp [intOf]; omega
    · obtain rfl : j = L.length := by omega
      obtain rfl : bo = false := by
        have := HBO.out
        rcases bo with _ | _; rfl; exact absurd (this.1 rfl) HOT.out
      obtain ⟨⟨c0, -⟩, z0, x0, x1, x2⟩ := HR.out.facts HX.out HGR.out


      obtain ⟨-, g0, g1, g2⟩ := row_facts HR.out.2.2.1 HX.out
      go_wp2_with fail
      refine (RFirst_none B g gs L _ ⟨_, _, HR.out⟩ HLL.out hL gr HFN.out).mono ?_
      rintro e wf ⟨rfl, rfl⟩
      go_upto_region 13 with fail
      have HR2 := HR
      have HW2 := HW
      generalize wr = wb at *
      have HE := Lib.hid (HR2.out.put (x := ⟨true, now, false⟩) rfl HX.out)
      go_region
      all_goals go_wp2_with fail
      all_goals go_ret
      all_goals exact ⟨rfl, ⟨_, _, HE.out.1.drew⟩, HW2.out.trans (HE.out.2.trans (ROth.drew _))⟩
set_option maxHeartbeats 2000000 in
set_option maxRecDepth 100000 in
theorem RTrip_b (B g : Nat) (gs : List Int) (L : List Lat) (w : World) (h : RAt B g gs L w) (hl : L.length = gs.length) (hL : L.length ≤ 1000000) (k : Nat) (now gr : Int) (x : Lat) (hx : L[k]? = some x) (hs : x.set = false) (hgr : gs[k]? = some gr)
    (hfn : ∀ (i : Nat) (y : Lat), L[i]? = some y → y.first = true → gs.getD i 0 ≠ gr) (hot : Others gs L gr L.length)  :
    Calls Try.prog 15 #[.pointer (some ⟨g, 0, none⟩), .int .i64 k, .int .i64 now] w fun e w' => e = .returned (.bool true) ∧ RAt B g gs (L.set k ⟨true, now, false⟩) w' ∧ ROth B w w' := by
  have hk : k < L.length := (List.getElem?_eq_some_iff.1 hx).1
  have H := Lib.hid h
  have HFN := Lib.hid hfn
  have HOT := Lib.hid hot

  have HX := Lib.hid hx
  have HS := Lib.hid hs
  have HGR := Lib.hid hgr
  obtain ⟨vG, vL, h⟩ := h
  obtain ⟨bG, cG, b, c, e1, e2, hcG, hc⟩ := h.forms hl (by omega)
  have HLL := Lib.hid hl
  have hl1 : L.length ≤ gs.length := by omega
  clear hl
  subst e1 e2
  obtain ⟨⟨c0, c1⟩, z0, x0, x1, x2⟩ := h.facts hx hgr
  rw [hs] at x0
  have hd : decide (0 ≤ (k : Int) ∧ (k : Int) < (L.length : Int)) = true := decide_eq_true (by omega)
  have HD := Lib.hid hd
  have HR0 := Lib.hid h
  clear h hd hx hs hgr hfn hot
  go_enter Try.func15, Try.ntmps15
  go_wp2_with fail
  refine (there_any B g gs L _ H.out k).mono ?_
  rintro e w1 ⟨rfl, rfl⟩
  rw [HD.out]
  go_wp2_with fail
  clear c0 c1 z0 x0 x1 x2
  have hkl : (k : Int) < (gs.length : Int) := by omega
  have hkL : (k : Int) < (L.length : Int) := by omega
  have hk0 : (0 : Int) ≤ (k : Int) := by omega
  go_loopw [7, 8] (fun b7 i wr => ∃ (j : Nat) (bo : Bool), j ≤ L.length ∧ i = .int .i64 j ∧ b7 = .bool bo ∧ Hid (bo = true ↔ Others gs L gr j) ∧ Hid (RVt B g gs L (.slice (some ⟨bG, 0, none⟩) gs.length cG) (.slice (some ⟨b, 0, none⟩) L.length c) wr) ∧ Hid (ROth B w wr)) (fun _ i _ => L.length - (intOf i).toNat)
  case atStart => exact ⟨0, false, Nat.zero_le _, rfl, rfl, ⟨fun h => (by cases h), fun ⟨j, y, h, _⟩ => absurd h (by omega)⟩, HR0.out, ROth.refl _⟩
  case round =>
    obtain ⟨j, bo, hj, rfl, rfl, HBO, HR, HW⟩ := hrel
    have c1 : wr.cell? ⟨g, 1, none⟩ = some (.slice (some ⟨b, 0, none⟩) L.length c) := HR.out.1.cell 1
    by_cases hlt : j < L.length
    · obtain ⟨y, hy⟩ : ∃ y, L[j]? = some y := ⟨_, List.getElem?_eq_getElem hlt⟩
      obtain ⟨u, hu⟩ : ∃ u, gs[j]? = some u := ⟨_, List.getElem?_eq_getElem (by omega)⟩
      obtain ⟨⟨c0, -⟩, z0, -⟩ := HR.out.facts HX.out HGR.out
      obtain ⟨-, z1, y0, -⟩ := HR.out.facts hy hu
      have hj0 : (0 : Int) ≤ (j : Int) := by omega
      have hjl : (j : Int) < (gs.length : Int) := by omega
      have hjL : (j : Int) < (L.length : Int) := by omega
      have HST := Lib.hid (others_step (gr := gr) (gs := gs) hy)
      have huj : gs.getD j 0 = u := by rw [List.getD_eq_getElem?_getD, hu]; rfl
      rw [huj] at HST
      clear hy hu huj
      have hcs : bo = true ∨ (bo = false ∧ y.set = false) ∨ (bo = false ∧ y.set = true ∧ (u == gr) = true) ∨ (bo = false ∧ y.set = true ∧ (u == gr) = false) := by
        rcases bo with _ | _
        · rcases y.set with _ | _
          · exact .inr (.inl ⟨rfl, rfl⟩)
          · by_cases e : u = gr
            · exact .inr (.inr (.inl ⟨rfl, rfl, by simp [e]⟩))
            · exact .inr (.inr (.inr ⟨rfl, rfl, by simp [e]⟩))
        · exact .inl rfl
      rcases hcs with rfl | ⟨rfl, hys⟩ | ⟨rfl, hys, hu⟩ | ⟨rfl, hys, hu⟩
      · go_upto_region 7 with fail
        go_quiet (fail)
        have HR1 := Lib.hid (HR.out.drewN nq)
        have HW1 := Lib.hid (HW.out.trans (ROth.drewN wr nq))
        clear c0 c1 z0 z1 y0 HR HW
        generalize wr.drewN nq = wa at *
        go_wp2_with fail
        go_roundw
        case rel => exact ⟨j + 1, true, by omega, by go_num, rfl, Lib.hid (by rw [HST.out]; exact ⟨fun _ => .inl (HBO.out.1 rfl), fun _ => rfl⟩), HR1, HW1⟩
        case measure => simp [intOf]; omega
      · have HYS := Lib.hid hys
        rw [hys] at y0
        clear hys
        go_upto_region 7 with fail
        go_quiet (fail)
        have HR1 := Lib.hid (HR.out.drewN nq)
        have HW1 := Lib.hid (HW.out.trans (ROth.drewN wr nq))
        clear c0 c1 z0 z1 y0 HR HW
        generalize wr.drewN nq = wa at *
        go_wp2_with fail
        go_roundw
        case rel => exact ⟨j + 1, false, by omega, by go_num, rfl, Lib.hid (by rw [HST.out]; exact ⟨fun h => (by cases h), fun h => (by rcases h with h | ⟨h, _⟩; exact HBO.out.2 h; rw [HYS.out] at h; cases h)⟩), HR1, HW1⟩
        case measure => simp [intOf]; omega
      · have HYS := Lib.hid hys
        rw [hys] at y0
        have HU := Lib.hid (show u = gr by simpa using hu)
        clear hys
        go_upto_region 7 with fail
        go_quiet (fail)
        have HR1 := Lib.hid (HR.out.drewN nq)
        have HW1 := Lib.hid (HW.out.trans (ROth.drewN wr nq))
        clear c0 c1 z0 z1 y0 HR HW
        generalize wr.drewN nq = wa at *
        go_wp2_with fail
        go_roundw
        case rel => exact ⟨j + 1, true, by omega, by go_num, rfl, Lib.hid (by rw [HST.out]; exact ⟨fun _ => .inr ⟨HYS.out, HU.out⟩, fun _ => rfl⟩), HR1, HW1⟩
        case measure => simp [intOf]; omega
      · have HYS := Lib.hid hys
        rw [hys] at y0
        have HU := Lib.hid (show ¬ u = gr by simpa using hu)
        clear hys
        go_upto_region 7 with fail
        go_quiet (fail)
        have HR1 := Lib.hid (HR.out.drewN nq)
        have HW1 := Lib.hid (HW.out.trans (ROth.drewN wr nq))
        clear c0 c1 z0 z1 y0 HR HW
        generalize wr.drewN nq = wa at *
        go_wp2_with fail
        go_roundw
        case rel => exact ⟨j + 1, false, by omega, by go_num, rfl, Lib.hid (by rw [HST.out]; exact ⟨fun h => (by cases h), fun h => (by rcases h with h | ⟨_, h⟩; exact HBO.out.2 h; exact absurd h HU.out)⟩), HR1, HW1⟩
        case measure => simp [intOf]; omega
    · obtain rfl : j = L.length := by omega
      obtain rfl : bo = true := by
        have := HBO.out
        exact this.2 HOT.out
      obtain ⟨⟨c0, -⟩, z0, x0, x1, x2⟩ := HR.out.facts HX.out HGR.out


      obtain ⟨-, g0, g1, g2⟩ := row_facts HR.out.2.2.1 HX.out
      go_wp2_with fail
      refine (RFirst_none B g gs L _ ⟨_, _, HR.out⟩ HLL.out hL gr HFN.out).mono ?_
      rintro e wf ⟨rfl, rfl⟩
      go_upto_region 13 with fail
      have HR2 := HR
      have HW2 := HW
      generalize wr = wb at *
      have HE := Lib.hid (HR2.out.put (x := ⟨true, now, false⟩) rfl HX.out)
      go_region
      all_goals go_wp2_with fail
      all_goals go_ret
      all_goals exact ⟨rfl, ⟨_, _, HE.out.1.drew⟩, HW2.out.trans (HE.out.2.trans (ROth.drew _))⟩
set_option maxHeartbeats 2000000 in
set_option maxRecDepth 100000 in
theorem RTrip_c (B g : Nat) (gs : List Int) (L : List Lat) (w : World) (h : RAt B g gs L w) (hl : L.length = gs.length) (hL : L.length ≤ 1000000) (k : Nat) (now gr : Int) (x : Lat) (hx : L[k]? = some x) (hs : x.set = false) (hgr : gs[k]? = some gr)
    (f : Nat) (z : Lat) (hz : L[f]? = some z) (hzf : z.first = true) (hzg : gs.getD f 0 = gr) (hfn : ∀ (i : Nat) (y : Lat), i < f → L[i]? = some y → y.first = true → gs.getD i 0 ≠ gr) (hot : Others gs L gr L.length) (hg0 : gr ≠ 0) (hat : z.at_ = now) (hkf : k < f) :
    Calls Try.prog 15 #[.pointer (some ⟨g, 0, none⟩), .int .i64 k, .int .i64 now] w fun e w' => e = .returned (.bool true) ∧ RAt B g gs ((L.set f ⟨z.set, z.at_, false⟩).set k ⟨true, now, true⟩) w' ∧ ROth B w w' := by
  have hk : k < L.length := (List.getElem?_eq_some_iff.1 hx).1
  have H := Lib.hid h
  have HFN := Lib.hid hfn
  have HOT := Lib.hid hot
  have HZ := Lib.hid hz; have HZF := Lib.hid hzf; have HZG := Lib.hid hzg
  have HX := Lib.hid hx
  have HS := Lib.hid hs
  have HGR := Lib.hid hgr
  have hgb : (gr == 0) = false := by simpa using hg0
  have hgn : (gr != 0) = true := by simpa using hg0
  have HG0 := Lib.hid hg0
  clear hg0
  have hatb : (z.at_ == now) = true := by simpa using hat
  have hkf2 : (k : Int) < (f : Int) := by omega
  clear hat
  obtain ⟨vG, vL, h⟩ := h
  obtain ⟨bG, cG, b, c, e1, e2, hcG, hc⟩ := h.forms hl (by omega)
  have HLL := Lib.hid hl
  have hl1 : L.length ≤ gs.length := by omega
  clear hl
  subst e1 e2
  obtain ⟨⟨c0, c1⟩, z0, x0, x1, x2⟩ := h.facts hx hgr
  rw [hs] at x0
  have hd : decide (0 ≤ (k : Int) ∧ (k : Int) < (L.length : Int)) = true := decide_eq_true (by omega)
  have HD := Lib.hid hd
  have HR0 := Lib.hid h
  clear h hd hx hs hgr hfn hot hz hzf hzg
  go_enter Try.func15, Try.ntmps15
  go_wp2_with fail
  refine (there_any B g gs L _ H.out k).mono ?_
  rintro e w1 ⟨rfl, rfl⟩
  rw [HD.out]
  go_wp2_with fail
  clear c0 c1 z0 x0 x1 x2
  have hkl : (k : Int) < (gs.length : Int) := by omega
  have hkL : (k : Int) < (L.length : Int) := by omega
  have hk0 : (0 : Int) ≤ (k : Int) := by omega
  go_loopw [7, 8] (fun b7 i wr => ∃ (j : Nat) (bo : Bool), j ≤ L.length ∧ i = .int .i64 j ∧ b7 = .bool bo ∧ Hid (bo = true ↔ Others gs L gr j) ∧ Hid (RVt B g gs L (.slice (some ⟨bG, 0, none⟩) gs.length cG) (.slice (some ⟨b, 0, none⟩) L.length c) wr) ∧ Hid (ROth B w wr)) (fun _ i _ => L.length - (intOf i).toNat)
  case atStart => exact ⟨0, false, Nat.zero_le _, rfl, rfl, ⟨fun h => (by cases h), fun ⟨j, y, h, _⟩ => absurd h (by omega)⟩, HR0.out, ROth.refl _⟩
  case round =>
    obtain ⟨j, bo, hj, rfl, rfl, HBO, HR, HW⟩ := hrel
    have c1 : wr.cell? ⟨g, 1, none⟩ = some (.slice (some ⟨b, 0, none⟩) L.length c) := HR.out.1.cell 1
    by_cases hlt : j < L.length
    · obtain ⟨y, hy⟩ : ∃ y, L[j]? = some y := ⟨_, List.getElem?_eq_getElem hlt⟩
      obtain ⟨u, hu⟩ : ∃ u, gs[j]? = some u := ⟨_, List.getElem?_eq_getElem (by omega)⟩
      obtain ⟨⟨c0, -⟩, z0, -⟩ := HR.out.facts HX.out HGR.out
      obtain ⟨-, z1, y0, -⟩ := HR.out.facts hy hu
      have hj0 : (0 : Int) ≤ (j : Int) := by omega
      have hjl : (j : Int) < (gs.length : Int) := by omega
      have hjL : (j : Int) < (L.length : Int) := by omega
      have HST := Lib.hid (others_step (gr := gr) (gs := gs) hy)
      have huj : gs.getD j 0 = u := by rw [List.getD_eq_getElem?_getD, hu]; rfl
      rw [huj] at HST
      clear hy hu huj
      have hcs : bo = true ∨ (bo = false ∧ y.set = false) ∨ (bo = false ∧ y.set = true ∧ (u == gr) = true) ∨ (bo = false ∧ y.set = true ∧ (u == gr) = false) := by
        rcases bo with _ | _
        · rcases y.set with _ | _
          · exact .inr (.inl ⟨rfl, rfl⟩)
          · by_cases e : u = gr
            · exact .inr (.inr (.inl ⟨rfl, rfl, by simp [e]⟩))
            · exact .inr (.inr (.inr ⟨rfl, rfl, by simp [e]⟩))
        · exact .inl rfl
      rcases hcs with rfl | ⟨rfl, hys⟩ | ⟨rfl, hys, hu⟩ | ⟨rfl, hys, hu⟩
      · go_upto_region 7 with fail
        go_quiet (fail)
        have HR1 := Lib.hid (HR.out.drewN nq)
        have HW1 := Lib.hid (HW.out.trans (ROth.drewN wr nq))
        clear c0 c1 z0 z1 y0 HR HW
        generalize wr.drewN nq = wa at *
        go_wp2_with fail
        go_roundw
        case rel => exact ⟨j + 1, true, by omega, by go_num, rfl, Lib.hid (by rw [HST.out]; exact ⟨fun _ => .inl (HBO.out.1 rfl), fun _ => rfl⟩), HR1, HW1⟩
        case measure => simp [intOf]; omega
      · have HYS := Lib.hid hys
        rw [hys] at y0
        clear hys
        go_upto_region 7 with fail
        go_quiet (fail)
        have HR1 := Lib.hid (HR.out.drewN nq)
        have HW1 := Lib.hid (HW.out.trans (ROth.drewN wr nq))
        clear c0 c1 z0 z1 y0 HR HW
        generalize wr.drewN nq = wa at *
        go_wp2_with fail
        go_roundw
        case rel => exact ⟨j + 1, false, by omega, by go_num, rfl, Lib.hid (by rw [HST.out]; exact ⟨fun h => (by cases h), fun h => (by rcases h with h | ⟨h, _⟩; exact HBO.out.2 h; rw [HYS.out] at h; cases h)⟩), HR1, HW1⟩
        case measure => simp [intOf]; omega
      · have HYS := Lib.hid hys
        rw [hys] at y0
        have HU := Lib.hid (show u = gr by simpa using hu)
        clear hys
        go_upto_region 7 with fail
        go_quiet (fail)
        have HR1 := Lib.hid (HR.out.drewN nq)
        have HW1 := Lib.hid (HW.out.trans (ROth.drewN wr nq))
        clear c0 c1 z0 z1 y0 HR HW
        generalize wr.drewN nq = wa at *
        go_wp2_with fail
        go_roundw
        case rel => exact ⟨j + 1, true, by omega, by go_num, rfl, Lib.hid (by rw [HST.out]; exact ⟨fun _ => .inr ⟨HYS.out, HU.out⟩, fun _ => rfl⟩), HR1, HW1⟩
        case measure => simp [intOf]; omega
      · have HYS := Lib.hid hys
        rw [hys] at y0
        have HU := Lib.hid (show ¬ u = gr by simpa using hu)
        clear hys
        go_upto_region 7 with fail
        go_quiet (fail)
        have HR1 := Lib.hid (HR.out.drewN nq)
        have HW1 := Lib.hid (HW.out.trans (ROth.drewN wr nq))
        clear c0 c1 z0 z1 y0 HR HW
        generalize wr.drewN nq = wa at *
        go_wp2_with fail
        go_roundw
        case rel => exact ⟨j + 1, false, by omega, by go_num, rfl, Lib.hid (by rw [HST.out]; exact ⟨fun h => (by cases h), fun h => (by rcases h with h | ⟨_, h⟩; exact HBO.out.2 h; exact absurd h HU.out)⟩), HR1, HW1⟩
        case measure => simp [intOf]; omega
    · obtain rfl : j = L.length := by omega
      obtain rfl : bo = true := by
        have := HBO.out
        exact this.2 HOT.out
      obtain ⟨⟨c0, -⟩, z0, x0, x1, x2⟩ := HR.out.facts HX.out HGR.out
      obtain ⟨⟨zf0, zf1, zf2⟩, -, -, fz⟩ := row_facts HR.out.2.2.1 HZ.out
      have hfl : (f : Int) < (L.length : Int) := by have := (List.getElem?_eq_some_iff.1 HZ.out).1; omega
      obtain ⟨-, g0, g1, g2⟩ := row_facts HR.out.2.2.1 HX.out
      go_wp2_with fail
      refine (RFirst_some B g gs L _ ⟨_, _, HR.out⟩ HLL.out hL gr f z HZ.out HZF.out HZG.out HFN.out).mono ?_
      rintro e wf ⟨rfl, rfl⟩
      have HP := Lib.hid (HR.out.flip HZ.out)
      have HX2 := Lib.hid (show (L.set f ⟨z.set, z.at_, false⟩)[k]? = some x by rw [List.getElem?_set_ne (by omega)]; exact HX.out)
      go_upto_region 13 with fail
      clear c0 c1 z0 x0 x1 x2 g0 g1 g2 zf0 zf1 zf2 fz
      generalize wr.setCell ⟨b, f * 3 + 2, none⟩ (.bool false) = wb at *
      have HW2 := Lib.hid (HW.out.trans HP.out.2)
      have HR2 : Hid (RVt B g gs (L.set f ⟨z.set, z.at_, false⟩) (.slice (some ⟨bG, 0, none⟩) gs.length cG) (.slice (some ⟨b, 0, none⟩) L.length c) wb) := Lib.hid HP.out.1
      obtain ⟨c0, c1, z0, x0, x1, x2, g0, g1, g2⟩ := HR2.out.facts2 (List.length_set ..).symm HX2.out HGR.out
      have HE := Lib.hid (HR2.out.put (x := ⟨true, now, true⟩) (List.length_set ..).symm HX2.out)
      go_region
      all_goals go_wp2_with fail
      all_goals go_ret
      all_goals exact ⟨rfl, ⟨_, _, HE.out.1.drew⟩, HW2.out.trans (HE.out.2.trans (ROth.drew _))⟩
set_option maxHeartbeats 2000000 in
set_option maxRecDepth 100000 in
theorem RTrip_d1 (B g : Nat) (gs : List Int) (L : List Lat) (w : World) (h : RAt B g gs L w) (hl : L.length = gs.length) (hL : L.length ≤ 1000000) (k : Nat) (now gr : Int) (x : Lat) (hx : L[k]? = some x) (hs : x.set = false) (hgr : gs[k]? = some gr)
    (f : Nat) (z : Lat) (hz : L[f]? = some z) (hzf : z.first = true) (hzg : gs.getD f 0 = gr) (hfn : ∀ (i : Nat) (y : Lat), i < f → L[i]? = some y → y.first = true → gs.getD i 0 ≠ gr) (hot : Others gs L gr L.length) (hat : z.at_ ≠ now) :
    Calls Try.prog 15 #[.pointer (some ⟨g, 0, none⟩), .int .i64 k, .int .i64 now] w fun e w' => e = .returned (.bool true) ∧ RAt B g gs (L.set k ⟨true, now, false⟩) w' ∧ ROth B w w' := by
  have hk : k < L.length := (List.getElem?_eq_some_iff.1 hx).1
  have H := Lib.hid h
  have HFN := Lib.hid hfn
  have HOT := Lib.hid hot
  have HZ := Lib.hid hz; have HZF := Lib.hid hzf; have HZG := Lib.hid hzg
  have HX := Lib.hid hx
  have HS := Lib.hid hs
  have HGR := Lib.hid hgr
  have hatb : (z.at_ == now) = false := by simpa using hat
  clear hat
  obtain ⟨vG, vL, h⟩ := h
  obtain ⟨bG, cG, b, c, e1, e2, hcG, hc⟩ := h.forms hl (by omega)
  have HLL := Lib.hid hl
  have hl1 : L.length ≤ gs.length := by omega
  clear hl
  subst e1 e2
  obtain ⟨⟨c0, c1⟩, z0, x0, x1, x2⟩ := h.facts hx hgr
  rw [hs] at x0
  have hd : decide (0 ≤ (k : Int) ∧ (k : Int) < (L.length : Int)) = true := decide_eq_true (by omega)
  have HD := Lib.hid hd
  have HR0 := Lib.hid h
  clear h hd hx hs hgr hfn hot hz hzf hzg
  go_enter Try.func15, Try.ntmps15
  go_wp2_with fail
  refine (there_any B g gs L _ H.out k).mono ?_
  rintro e w1 ⟨rfl, rfl⟩
  rw [HD.out]
  go_wp2_with fail
  clear c0 c1 z0 x0 x1 x2
  have hkl : (k : Int) < (gs.length : Int) := by omega
  have hkL : (k : Int) < (L.length : Int) := by omega
  have hk0 : (0 : Int) ≤ (k : Int) := by omega
  go_loopw [7, 8] (fun b7 i wr => ∃ (j : Nat) (bo : Bool), j ≤ L.length ∧ i = .int .i64 j ∧ b7 = .bool bo ∧ Hid (bo = true ↔ Others gs L gr j) ∧ Hid (RVt B g gs L (.slice (some ⟨bG, 0, none⟩) gs.length cG) (.slice (some ⟨b, 0, none⟩) L.length c) wr) ∧ Hid (ROth B w wr)) (fun _ i _ => L.length - (intOf i).toNat)
  case atStart => exact ⟨0, false, Nat.zero_le _, rfl, rfl, ⟨fun h => (by cases h), fun ⟨j, y, h, _⟩ => absurd h (by omega)⟩, HR0.out, ROth.refl _⟩
  case round =>
    obtain ⟨j, bo, hj, rfl, rfl, HBO, HR, HW⟩ := hrel
    have c1 : wr.cell? ⟨g, 1, none⟩ = some (.slice (some ⟨b, 0, none⟩) L.length c) := HR.out.1.cell 1
    by_cases hlt : j < L.length
    · obtain ⟨y, hy⟩ : ∃ y, L[j]? = some y := ⟨_, List.getElem?_eq_getElem hlt⟩
      obtain ⟨u, hu⟩ : ∃ u, gs[j]? = some u := ⟨_, List.getElem?_eq_getElem (by omega)⟩
      obtain ⟨⟨c0, -⟩, z0, -⟩ := HR.out.facts HX.out HGR.out
      obtain ⟨-, z1, y0, -⟩ := HR.out.facts hy hu
      have hj0 : (0 : Int) ≤ (j : Int) := by omega
      have hjl : (j : Int) < (gs.length : Int) := by omega
      have hjL : (j : Int) < (L.length : Int) := by omega
      have HST := Lib.hid (others_step (gr := gr) (gs := gs) hy)
      have huj : gs.getD j 0 = u := by rw [List.getD_eq_getElem?_getD, hu]; rfl
      rw [huj] at HST
      clear hy hu huj
      have hcs : bo = true ∨ (bo = false ∧ y.set = false) ∨ (bo = false ∧ y.set = true ∧ (u == gr) = true) ∨ (bo = false ∧ y.set = true ∧ (u == gr) = false) := by
        rcases bo with _ | _
        · rcases y.set with _ | _
          · exact .inr (.inl ⟨rfl, rfl⟩)
          · by_cases e : u = gr
            · exact .inr (.inr (.inl ⟨rfl, rfl, by simp [e]⟩))
            · exact .inr (.inr (.inr ⟨rfl, rfl, by simp [e]⟩))
        · exact .inl rfl
      rcases hcs with rfl | ⟨rfl, hys⟩ | ⟨rfl, hys, hu⟩ | ⟨rfl, hys, hu⟩
      · go_upto_region 7 with fail
        go_quiet (fail)
        have HR1 := Lib.hid (HR.out.drewN nq)
        have HW1 := Lib.hid (HW.out.trans (ROth.drewN wr nq))
        clear c0 c1 z0 z1 y0 HR HW
        generalize wr.drewN nq = wa at *
        go_wp2_with fail
        go_roundw
        case rel => exact ⟨j + 1, true, by omega, by go_num, rfl, Lib.hid (by rw [HST.out]; exact ⟨fun _ => .inl (HBO.out.1 rfl), fun _ => rfl⟩), HR1, HW1⟩
        case measure => simp [intOf]; omega
      · have HYS := Lib.hid hys
        rw [hys] at y0
        clear hys
        go_upto_region 7 with fail
        go_quiet (fail)
        have HR1 := Lib.hid (HR.out.drewN nq)
        have HW1 := Lib.hid (HW.out.trans (ROth.drewN wr nq))
        clear c0 c1 z0 z1 y0 HR HW
        generalize wr.drewN nq = wa at *
        go_wp2_with fail
        go_roundw
        case rel => exact ⟨j + 1, false, by omega, by go_num, rfl, Lib.hid (by rw [HST.out]; exact ⟨fun h => (by cases h), fun h => (by rcases h with h | ⟨h, _⟩; exact HBO.out.2 h; rw [HYS.out] at h; cases h)⟩), HR1, HW1⟩
        case measure => simp [intOf]; omega
      · have HYS := Lib.hid hys
        rw [hys] at y0
        have HU := Lib.hid (show u = gr by simpa using hu)
        clear hys
        go_upto_region 7 with fail
        go_quiet (fail)
        have HR1 := Lib.hid (HR.out.drewN nq)
        have HW1 := Lib.hid (HW.out.trans (ROth.drewN wr nq))
        clear c0 c1 z0 z1 y0 HR HW
        generalize wr.drewN nq = wa at *
        go_wp2_with fail
        go_roundw
        case rel => exact ⟨j + 1, true, by omega, by go_num, rfl, Lib.hid (by rw [HST.out]; exact ⟨fun _ => .inr ⟨HYS.out, HU.out⟩, fun _ => rfl⟩), HR1, HW1⟩
        case measure => simp [intOf]; omega
      · have HYS := Lib.hid hys
        rw [hys] at y0
        have HU := Lib.hid (show ¬ u = gr by simpa using hu)
        clear hys
        go_upto_region 7 with fail
        go_quiet (fail)
        have HR1 := Lib.hid (HR.out.drewN nq)
        have HW1 := Lib.hid (HW.out.trans (ROth.drewN wr nq))
        clear c0 c1 z0 z1 y0 HR HW
        generalize wr.drewN nq = wa at *
        go_wp2_with fail
        go_roundw
        case rel => exact ⟨j + 1, false, by omega, by go_num, rfl, Lib.hid (by rw [HST.out]; exact ⟨fun h => (by cases h), fun h => (by rcases h with h | ⟨_, h⟩; exact HBO.out.2 h; exact absurd h HU.out)⟩), HR1, HW1⟩
        case measure => simp [intOf]; omega
    · obtain rfl : j = L.length := by omega
      obtain rfl : bo = true := by
        have := HBO.out
        exact this.2 HOT.out
      obtain ⟨⟨c0, -⟩, z0, x0, x1, x2⟩ := HR.out.facts HX.out HGR.out
      obtain ⟨⟨zf0, zf1, zf2⟩, -, -, fz⟩ := row_facts HR.out.2.2.1 HZ.out
      have hfl : (f : Int) < (L.length : Int) := by have := (List.getElem?_eq_some_iff.1 HZ.out).1; omega
      obtain ⟨-, g0, g1, g2⟩ := row_facts HR.out.2.2.1 HX.out
      go_wp2_with fail
      refine (RFirst_some B g gs L _ ⟨_, _, HR.out⟩ HLL.out hL gr f z HZ.out HZF.out HZG.out HFN.out).mono ?_
      rintro e wf ⟨rfl, rfl⟩
      go_upto_region 13 with fail
      have HR2 := HR
      have HW2 := HW
      generalize wr = wb at *
      have HE := Lib.hid (HR2.out.put (x := ⟨true, now, false⟩) rfl HX.out)
      go_region
      all_goals go_wp2_with fail
      all_goals go_ret
      all_goals exact ⟨rfl, ⟨_, _, HE.out.1.drew⟩, HW2.out.trans (HE.out.2.trans (ROth.drew _))⟩
set_option maxHeartbeats 2000000 in
set_option maxRecDepth 100000 in
theorem RTrip_d2 (B g : Nat) (gs : List Int) (L : List Lat) (w : World) (h : RAt B g gs L w) (hl : L.length = gs.length) (hL : L.length ≤ 1000000) (k : Nat) (now gr : Int) (x : Lat) (hx : L[k]? = some x) (hs : x.set = false) (hgr : gs[k]? = some gr)
    (f : Nat) (z : Lat) (hz : L[f]? = some z) (hzf : z.first = true) (hzg : gs.getD f 0 = gr) (hfn : ∀ (i : Nat) (y : Lat), i < f → L[i]? = some y → y.first = true → gs.getD i 0 ≠ gr) (hot : Others gs L gr L.length) (hat : z.at_ = now) (hkf : f ≤ k) :
    Calls Try.prog 15 #[.pointer (some ⟨g, 0, none⟩), .int .i64 k, .int .i64 now] w fun e w' => e = .returned (.bool true) ∧ RAt B g gs (L.set k ⟨true, now, false⟩) w' ∧ ROth B w w' := by
  have hk : k < L.length := (List.getElem?_eq_some_iff.1 hx).1
  have H := Lib.hid h
  have HFN := Lib.hid hfn
  have HOT := Lib.hid hot
  have HZ := Lib.hid hz; have HZF := Lib.hid hzf; have HZG := Lib.hid hzg
  have HX := Lib.hid hx
  have HS := Lib.hid hs
  have HGR := Lib.hid hgr
  have hatb : (z.at_ == now) = true := by simpa using hat
  have hkf2 : (f : Int) ≤ (k : Int) := by omega
  clear hat
  obtain ⟨vG, vL, h⟩ := h
  obtain ⟨bG, cG, b, c, e1, e2, hcG, hc⟩ := h.forms hl (by omega)
  have HLL := Lib.hid hl
  have hl1 : L.length ≤ gs.length := by omega
  clear hl
  subst e1 e2
  obtain ⟨⟨c0, c1⟩, z0, x0, x1, x2⟩ := h.facts hx hgr
  rw [hs] at x0
  have hd : decide (0 ≤ (k : Int) ∧ (k : Int) < (L.length : Int)) = true := decide_eq_true (by omega)
  have HD := Lib.hid hd
  have HR0 := Lib.hid h
  clear h hd hx hs hgr hfn hot hz hzf hzg
  go_enter Try.func15, Try.ntmps15
  go_wp2_with fail
  refine (there_any B g gs L _ H.out k).mono ?_
  rintro e w1 ⟨rfl, rfl⟩
  rw [HD.out]
  go_wp2_with fail
  clear c0 c1 z0 x0 x1 x2
  have hkl : (k : Int) < (gs.length : Int) := by omega
  have hkL : (k : Int) < (L.length : Int) := by omega
  have hk0 : (0 : Int) ≤ (k : Int) := by omega
  go_loopw [7, 8] (fun b7 i wr => ∃ (j : Nat) (bo : Bool), j ≤ L.length ∧ i = .int .i64 j ∧ b7 = .bool bo ∧ Hid (bo = true ↔ Others gs L gr j) ∧ Hid (RVt B g gs L (.slice (some ⟨bG, 0, none⟩) gs.length cG) (.slice (some ⟨b, 0, none⟩) L.length c) wr) ∧ Hid (ROth B w wr)) (fun _ i _ => L.length - (intOf i).toNat)
  case atStart => exact ⟨0, false, Nat.zero_le _, rfl, rfl, ⟨fun h => (by cases h), fun ⟨j, y, h, _⟩ => absurd h (by omega)⟩, HR0.out, ROth.refl _⟩
  case round =>
    obtain ⟨j, bo, hj, rfl, rfl, HBO, HR, HW⟩ := hrel
    have c1 : wr.cell? ⟨g, 1, none⟩ = some (.slice (some ⟨b, 0, none⟩) L.length c) := HR.out.1.cell 1
    by_cases hlt : j < L.length
    · obtain ⟨y, hy⟩ : ∃ y, L[j]? = some y := ⟨_, List.getElem?_eq_getElem hlt⟩
      obtain ⟨u, hu⟩ : ∃ u, gs[j]? = some u := ⟨_, List.getElem?_eq_getElem (by omega)⟩
      obtain ⟨⟨c0, -⟩, z0, -⟩ := HR.out.facts HX.out HGR.out
      obtain ⟨-, z1, y0, -⟩ := HR.out.facts hy hu
      have hj0 : (0 : Int) ≤ (j : Int) := by omega
      have hjl : (j : Int) < (gs.length : Int) := by omega
      have hjL : (j : Int) < (L.length : Int) := by omega
      have HST := Lib.hid (others_step (gr := gr) (gs := gs) hy)
      have huj : gs.getD j 0 = u := by rw [List.getD_eq_getElem?_getD, hu]; rfl
      rw [huj] at HST
      clear hy hu huj
      have hcs : bo = true ∨ (bo = false ∧ y.set = false) ∨ (bo = false ∧ y.set = true ∧ (u == gr) = true) ∨ (bo = false ∧ y.set = true ∧ (u == gr) = false) := by
        rcases bo with _ | _
        · rcases y.set with _ | _
          · exact .inr (.inl ⟨rfl, rfl⟩)
          · by_cases e : u = gr
            · exact .inr (.inr (.inl ⟨rfl, rfl, by simp [e]⟩))
            · exact .inr (.inr (.inr ⟨rfl, rfl, by simp [e]⟩))
        · exact .inl rfl
      rcases hcs with rfl | ⟨rfl, hys⟩ | ⟨rfl, hys, hu⟩ | ⟨rfl, hys, hu⟩
      · go_upto_region 7 with fail
        go_quiet (fail)
        have HR1 := Lib.hid (HR.out.drewN nq)
        have HW1 := Lib.hid (HW.out.trans (ROth.drewN wr nq))
        clear c0 c1 z0 z1 y0 HR HW
        generalize wr.drewN nq = wa at *
        go_wp2_with fail
        go_roundw
        case rel => exact ⟨j + 1, true, by omega, by go_num, rfl, Lib.hid (by rw [HST.out]; exact ⟨fun _ => .inl (HBO.out.1 rfl), fun _ => rfl⟩), HR1, HW1⟩
        case measure => simp [intOf]; omega
      · have HYS := Lib.hid hys
        rw [hys] at y0
        clear hys
        go_upto_region 7 with fail
        go_quiet (fail)
        have HR1 := Lib.hid (HR.out.drewN nq)
        have HW1 := Lib.hid (HW.out.trans (ROth.drewN wr nq))
        clear c0 c1 z0 z1 y0 HR HW
        generalize wr.drewN nq = wa at *
        go_wp2_with fail
        go_roundw
        case rel => exact ⟨j + 1, false, by omega, by go_num, rfl, Lib.hid (by rw [HST.out]; exact ⟨fun h => (by cases h), fun h => (by rcases h with h | ⟨h, _⟩; exact HBO.out.2 h; rw [HYS.out] at h; cases h)⟩), HR1, HW1⟩
        case measure => simp [intOf]; omega
      · have HYS := Lib.hid hys
        rw [hys] at y0
        have HU := Lib.hid (show u = gr by simpa using hu)
        clear hys
        go_upto_region 7 with fail
        go_quiet (fail)
        have HR1 := Lib.hid (HR.out.drewN nq)
        have HW1 := Lib.hid (HW.out.trans (ROth.drewN wr nq))
        clear c0 c1 z0 z1 y0 HR HW
        generalize wr.drewN nq = wa at *
        go_wp2_with fail
        go_roundw
        case rel => exact ⟨j + 1, true, by omega, by go_num, rfl, Lib.hid (by rw [HST.out]; exact ⟨fun _ => .inr ⟨HYS.out, HU.out⟩, fun _ => rfl⟩), HR1, HW1⟩
        case measure => simp [intOf]; omega
      · have HYS := Lib.hid hys
        rw [hys] at y0
        have HU := Lib.hid (show ¬ u = gr by simpa using hu)
        clear hys
        go_upto_region 7 with fail
        go_quiet (fail)
        have HR1 := Lib.hid (HR.out.drewN nq)
        have HW1 := Lib.hid (HW.out.trans (ROth.drewN wr nq))
        clear c0 c1 z0 z1 y0 HR HW
        generalize wr.drewN nq = wa at *
        go_wp2_with fail
        go_roundw
        case rel => exact ⟨j + 1, false, by omega, by go_num, rfl, Lib.hid (by rw [HST.out]; exact ⟨fun h => (by cases h), fun h => (by rcases h with h | ⟨_, h⟩; exact HBO.out.2 h; exact absurd h HU.out)⟩), HR1, HW1⟩
        case measure => simp [intOf]; omega
    · obtain rfl : j = L.length := by omega
      obtain rfl : bo = true := by
        have := HBO.out
        exact this.2 HOT.out
      obtain ⟨⟨c0, -⟩, z0, x0, x1, x2⟩ := HR.out.facts HX.out HGR.out
      obtain ⟨⟨zf0, zf1, zf2⟩, -, -, fz⟩ := row_facts HR.out.2.2.1 HZ.out
      have hfl : (f : Int) < (L.length : Int) := by have := (List.getElem?_eq_some_iff.1 HZ.out).1; omega
      obtain ⟨-, g0, g1, g2⟩ := row_facts HR.out.2.2.1 HX.out
      go_wp2_with fail
      refine (RFirst_some B g gs L _ ⟨_, _, HR.out⟩ HLL.out hL gr f z HZ.out HZF.out HZG.out HFN.out).mono ?_
      rintro e wf ⟨rfl, rfl⟩
      go_upto_region 13 with fail
      have HR2 := HR
      have HW2 := HW
      generalize wr = wb at *
      have HE := Lib.hid (HR2.out.put (x := ⟨true, now, false⟩) rfl HX.out)
      go_region
      all_goals go_wp2_with fail
      all_goals go_ret
      all_goals exact ⟨rfl, ⟨_, _, HE.out.1.drew⟩, HW2.out.trans (HE.out.2.trans (ROth.drew _))⟩
end Go.Proofs.Ytcaobjmngdlklaa
