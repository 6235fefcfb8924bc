/-
  All, walked.
-/
import Derived.Test.YtcaobjmngdlklaaLatchNew
namespace Go.Proofs.Ytcaobjmngdlklaa
open Go.RowKit
def latC (x : Lat) : List Value := [.bool x.set, .int .i64 x.at_, .bool x.first]
theorem latC_len (x : Lat) : (latC x).length = 3 := rfl
theorem lat_info : (Try.prog.info? 37).map (fun i => (i.zero, i.size, i.bytes)) = some (some (.agg #[.bool false, .int .i64 0, .bool false]), 3, 24) := by kernel_rfl
def LatsAt (w : World) (l : List Lat) (v : Value) : Prop := LawFrame.RowsAt w 3 latC l v
/-- a row of the call's own, of latches as they are seen -/
def RowPost (l : List Lat) (w : World) (e : Ending) (w' : World) : Prop := ∃ v, e = .returned v ∧ w'.ownsRow w.heap.size 37 3 v l.length (l.flatMap latC) ∧ Below w.heap.size w w'
theorem grown_of_below {w w' : World} (h : Below w.heap.size w w') : w.grownBy w' none := ⟨h.os, h.tape, h.output, h.size, fun i hi _ => h.block i hi⟩
theorem own_none (v : Value) : v.ownBlock = none ∨ v.ownBlock ≠ none := by rcases v.ownBlock with _ | g <;> simp
/-- so many are told -/
def Told (l : List Lat) (k : Nat) (L : List Lat) : Prop := L.length = l.length ∧ ∀ i, i < k → L[i]? = l[i]?
theorem told_step {l L : List Lat} {k : Nat} {x : Lat} (h : Told l k L) (hx : l[k]? = some x) : Told l (k + 1) (L.set k x) := by
  refine ⟨by rw [List.length_set]; exact h.1, fun i hi => ?_⟩
  by_cases hik : i = k
  · subst hik
    rw [List.getElem?_set_self (by rw [h.1]; exact (List.getElem?_eq_some_iff.1 hx).1), hx]
  · rw [List.getElem?_set_ne (Ne.symm hik)]
    exact h.2 i (by omega)
theorem told_end {l L : List Lat} (h : Told l l.length L) : L = l := by
  apply List.ext_getElem?
  intro i
  by_cases hi : i < l.length
  · exact h.2 i hi
  · rw [List.getElem?_eq_none (by rw [h.1]; omega), List.getElem?_eq_none (by omega)]
/-- one of a row is stored: three cells -/
theorem row_store {W : World} {base n b c k : Nat} {L : List Lat} {y : Lat} (h : W.ownsRow base 37 3 (.slice (some ⟨b, 0, none⟩) n c) n (L.flatMap latC)) (hy : L[k]? = some y) (x : Lat) :
    (((W.setCell ⟨b, k * 3, none⟩ (.bool x.set)).setCell ⟨b, k * 3 + 1, none⟩ (.int .i64 x.at_)).setCell ⟨b, k * 3 + 2, none⟩ (.bool x.first)).ownsRow base 37 3 (.slice (some ⟨b, 0, none⟩) n c) n ((L.set k x).flatMap latC) := by
  obtain ⟨r1, g1⟩ := h.stored (k * 3) (.bool x.set)
  have q0 := flat_set latC_len L k y ⟨x.set, y.at_, y.first⟩ 0 (.bool x.set) hy (by decide) rfl
  rw [Nat.add_zero] at q0
  rw [q0] at r1
  obtain ⟨r2, g2⟩ := r1.stored (k * 3 + 1) (.int .i64 x.at_)
  rw [flat_set latC_len _ k ⟨x.set, y.at_, y.first⟩ ⟨x.set, x.at_, y.first⟩ 1 (.int .i64 x.at_) (by simp [(List.getElem?_eq_some_iff.1 hy).1]) (by decide) rfl, List.set_set] at r2
  obtain ⟨r3, g3⟩ := r2.stored (k * 3 + 2) (.bool x.first)
  rw [flat_set latC_len _ k ⟨x.set, x.at_, y.first⟩ x 2 (.bool x.first) (by simp [(List.getElem?_eq_some_iff.1 hy).1]) (by decide) rfl, List.set_set] at r3
  exact r3
theorem row_facts {W : World} {base n b c k : Nat} {L : List Lat} {y : Lat} (h : W.ownsRow base 37 3 (.slice (some ⟨b, 0, none⟩) n c) n (L.flatMap latC)) (hy : L[k]? = some y) :
    (W.cell? ⟨b, k * 3, none⟩ = some (.bool y.set) ∧ W.cell? ⟨b, k * 3 + 1, none⟩ = some (.int .i64 y.at_) ∧ W.cell? ⟨b, k * 3 + 2, none⟩ = some (.bool y.first)) ∧
    W.frozen? ⟨b, k * 3, none⟩ = false ∧ W.frozen? ⟨b, k * 3 + 1, none⟩ = false ∧ W.frozen? ⟨b, k * 3 + 2, none⟩ = false :=
  ⟨⟨row_cell latC_len h hy (d := 0) rfl, row_cell latC_len h hy (d := 1) rfl, row_cell latC_len h hy (d := 2) rfl⟩, h.frozenAt _, h.frozenAt _, h.frozenAt _⟩
set_option maxHeartbeats 1000000 in
set_option maxRecDepth 100000 in
theorem All_any (B g : Nat) (v : Value) (m1 m2 N : Nat) (s : LS) (w : World) (h : LAt B g v m1 m2 N s w) (hl : s.l.length ≤ 1000000) :
    Calls Try.prog 19 #[.pointer (some ⟨g, 0, none⟩)] w (RowPost (view s) w) := by
  obtain ⟨i0, hi0, hz0, hz1, hz2⟩ := info_parts lat_info
  obtain ⟨A, c, e⟩ := own_form h.1.2.1
  subst e
  have c0 : w.cell? ⟨g, 0, none⟩ = some (.slice A s.l.length c) := h.1.1.cell 0
  have H := Lib.hid h
  have HV := Lib.hid (view_len s)
  clear h
  go_enter Try.func19, Try.ntmps19
  go_wp2_with (at_make; refine wpList_make_full _ rfl (.tmp 9) (.tmp 9) 30 rfl w.heap.size 37 i0 _ 3 Try.underlying30 hi0 hz0 hz1 .i64 .i64 _ _ s.l.length rfl rfl rfl rfl (by rw [hz2]; omega) (by simp only [maxLen]; omega) (Nat.le_refl _) ?_; intro w1 ho1 hg1; have HO1 := Lib.hid ho1; have HG1 := Lib.hid hg1; clear ho1 hg1)
  have hrow : w1.ownsRow w.heap.size 37 3 (.slice (some ⟨w.heap.size, 0, none⟩) s.l.length s.l.length) s.l.length ((List.replicate s.l.length (⟨false, 0, false⟩ : Lat)).flatMap latC) := by
    have := HO1.out
    rw [← made_flat (z := (Value.agg #[.bool false, .int .i64 0, .bool false]).cells) (m := 3) (by decide) latC_len (List.replicate s.l.length (⟨false, 0, false⟩ : Lat)) (fun x hx => by rw [List.eq_of_mem_replicate hx]; rfl), List.length_replicate]
    exact this
  have hb1 : Below w.heap.size w w1 := (Below.refl _ _).grown HG1.out (Nat.le_refl _) (fun k hk => by cases hk)
  have HR := Lib.hid hrow
  have HB := Lib.hid hb1
  clear hrow hb1 HO1 HG1 c0
  generalize hn : s.l.length = n at *
  have HN := Lib.hid hn
  clear hn
  go_loopw [4, 13] (fun _ i wr => ∃ (k : Nat) (L : List Lat), k ≤ n ∧ i = .int .i64 k ∧ Told (view s) k L ∧ wr.ownsRow w.heap.size 37 3 (.slice (some ⟨w.heap.size, 0, none⟩) n n) n (L.flatMap latC) ∧ Below w.heap.size w wr) (fun _ i _ => n - (intOf i).toNat)
  case atStart => exact ⟨0, _, Nat.zero_le _, rfl, ⟨by rw [HV.out]; simp, fun i hi => by omega⟩, HR.out, HB.out⟩
  case round =>
    clear HR HB
    obtain ⟨k, L, hk, rfl, hT, hR, hB⟩ := hrel
    have HT := Lib.hid hT
    have HR := Lib.hid hR
    have HB := Lib.hid hB
    clear hT hR hB
    by_cases hlt : k < n
    · obtain ⟨x, hx⟩ : ∃ x, (view s)[k]? = some x := ⟨_, List.getElem?_eq_getElem (by rw [HV.out]; exact hlt)⟩
      obtain ⟨y, hy⟩ : ∃ y, L[k]? = some y := ⟨_, List.getElem?_eq_getElem (by rw [HT.out.1, HV.out]; exact hlt)⟩
      have HX := Lib.hid hx
      have HY := Lib.hid hy
      clear hx hy
      have HA := Lib.hid (H.out.below HB.out)
      go_wp2_with fail
      refine (At_any B g _ m1 m2 N s _ HA.out k).mono ?_
      rintro e w2 ⟨rfl, hb⟩
      rw [atL_view s k x HX.out]
      have HR2 := Lib.hid (HR.out.kept (grown_of_below hb) (own_none _))
      have HB2 := Lib.hid (HB.out.trans (hb.mono HB.out.size))
      obtain ⟨⟨x0, x1, x2⟩, f0, f1, f2⟩ := row_facts HR2.out HY.out
      have HRS := Lib.hid (row_store HR2.out HY.out x)
      have HBS := Lib.hid (((HB2.out.setCell (p := ⟨w.heap.size, k * 3, none⟩) (Nat.le_refl _) (.bool x.set)).setCell (p := ⟨w.heap.size, k * 3 + 1, none⟩) (Nat.le_refl _) (.int .i64 x.at_)).setCell (p := ⟨w.heap.size, k * 3 + 2, none⟩) (Nat.le_refl _) (.bool x.first))
      have HTS := Lib.hid (told_step HT.out HX.out)
      clear hb HR HB HA HT
      unfold latV
      go_wp2_with fail
      go_roundw
      case rel => exact ⟨k + 1, _, by omega, by go_num, HTS.out, HRS.out, HBS.out⟩
      case measure => simp [intOf]; omega
    · obtain rfl : k = n := by omega
      go_wp2_with fail
      go_ret
      have hT : Told (view s) (view s).length L := by rw [HV.out]; exact HT.out
      have hR := HR.out
      rw [told_end hT] at hR
      refine ⟨_, rfl, ?_, HB.out⟩
      rw [HV.out]
      exact hR
end Go.Proofs.Ytcaobjmngdlklaa
