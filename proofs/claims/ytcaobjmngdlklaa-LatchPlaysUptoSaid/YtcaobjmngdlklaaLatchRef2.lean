/-
  The document's latches, walked: All, First, Reset; and Same.
-/
import Derived.Test.YtcaobjmngdlklaaLatchRef
import Derived.Deep.RegionHeld3
namespace Go.Proofs.Ytcaobjmngdlklaa
open Go.RowKit
set_option maxRecDepth 100000 in
theorem RAll_any (B g : Nat) (gs : List Int) (L : List Lat) (w : World) (h : RAt B g gs L w) (hl : L.length ≤ 1000000) :
    Calls Try.prog 20 #[.pointer (some ⟨g, 0, none⟩)] w (RowPost L w) := by
  obtain ⟨i0, hi0, hz0, hz1, hz2⟩ := info_parts lat_info
  obtain ⟨vG, vL, h⟩ := h
  obtain ⟨A, c, e⟩ := own_form h.2.2.1
  subst e
  have c1 : w.cell? ⟨g, 1, none⟩ = some (.slice A L.length c) := h.1.cell 1
  have hgl := Words.Blk.lt h.1
  have HR := Lib.hid (Words.Reads.of_own h.2.2.1)
  have HO := Lib.hid (one_lats L)
  have HN := Lib.hid (lit_nil (base := w.heap.size) w 37 3 _ rfl (Nat.le_refl _))
  clear h
  go_enter Try.func20, Try.ntmps20
  go_wp2_with (at_builtin; refine Words.wpList_append_any _ rfl (.tmp 3) (.tmp 7) _ rfl w.heap.size 37 i0 _ 3 24 Try.underlying30 hi0 hz0 hz1 hz2 rfl (by omega) (.slice (some ⟨w.heap.size, 0, none⟩) 0 0) 0 [] rfl HN.out w.heap.size A L.length c (L.flatMap latC) rfl (HR.out.alloc (Nat.le_refl _) _) HO.out (by simp only [maxLen]; omega) (by omega) (by simp) ?_; intro v' w2 ho hg hat; have HE := Lib.hid ho; have HB := Lib.hid (((Below.refl _ _).alloc (Nat.le_refl _) _).grown hg (by simp) (fun k hk => by simp [Value.ownBlock] at hk; omega)); clear ho hg hat)
  go_ret
  refine ⟨_, rfl, ?_, HB.out⟩
  have := HE.out
  rw [Nat.zero_add, List.nil_append] at this
  exact this
/-- the fields of one of the document's -/
theorem RVt.facts {B g b c bG cG : Nat} {gs : List Int} {L : List Lat} {k : Nat} {x : Lat} {gr : Int} {w : World} (h : RVt B g gs L (.slice (some ⟨bG, 0, none⟩) gs.length cG) (.slice (some ⟨b, 0, none⟩) L.length c) w) (hx : L[k]? = some x) (hg : gs[k]? = some gr) :
    (w.cell? ⟨g, 0, none⟩ = some (.slice (some ⟨bG, 0, none⟩) gs.length cG) ∧ w.cell? ⟨g, 1, none⟩ = some (.slice (some ⟨b, 0, none⟩) L.length c)) ∧ w.cell? ⟨bG, k, none⟩ = some (.int .i64 gr) ∧
    (w.cell? ⟨b, k * 3, none⟩ = some (.bool x.set) ∧ w.cell? ⟨b, k * 3 + 1, none⟩ = some (.int .i64 x.at_) ∧ w.cell? ⟨b, k * 3 + 2, none⟩ = some (.bool x.first)) := by
  refine ⟨⟨h.1.cell 0, h.1.cell 1⟩, ?_, (row_facts h.2.2.1 hx).1⟩
  have := row_cell nC_len h.2.1 hg (d := 0) rfl
  simpa using this
/-- the forms of the two rows, where there is one in them -/
theorem RVt.forms {B g : Nat} {gs : List Int} {L : List Lat} {vG vL : Value} {w : World} (h : RVt B g gs L vG vL w) (hl : L.length = gs.length) (h0 : 0 < L.length) :
    ∃ bG cG b c, vG = .slice (some ⟨bG, 0, none⟩) gs.length cG ∧ vL = .slice (some ⟨b, 0, none⟩) L.length c ∧ gs.length ≤ cG ∧ L.length ≤ c := by
  obtain ⟨bG, cG, e1, h1⟩ := own_some h.2.1 (show 0 < gs.length by omega)
  obtain ⟨b, c, e2, h2⟩ := own_some h.2.2.1 h0
  exact ⟨bG, cG, b, c, e1, e2, h1, h2⟩
set_option maxHeartbeats 1000000 in
set_option maxRecDepth 100000 in
theorem RFirst_none (B g : Nat) (gs : List Int) (L : List Lat) (w : World) (h : RAt B g gs L w) (hl : L.length = gs.length) (hL : L.length ≤ 1000000) (gr : Int) (hn : ∀ (i : Nat) (y : Lat), L[i]? = some y → y.first = true → gs.getD i 0 ≠ gr) :
    Calls Try.prog 22 #[.pointer (some ⟨g, 0, none⟩), .int .i64 gr] w fun e w' => e = .returned (.tuple #[.int .i64 0, .bool false]) ∧ w = w' := by
  obtain ⟨vG, vL, h⟩ := h
  rcases Nat.eq_zero_or_pos L.length with h0 | h0
  · obtain ⟨A, c, e⟩ := own_form h.2.2.1
    subst e
    have c1 : w.cell? ⟨g, 1, none⟩ = some (.slice A L.length c) := h.1.cell 1
    rw [h0] at c1
    clear h hn
    go_enter Try.func22, Try.ntmps22
    go_wp2_with fail
    go_loop [6] (fun i => i = .int .i64 0) (fun _ => 0)
    case atStart => rfl
    case round =>
      subst hrel
      go_wp2_with fail
      go_ret2
      exact ⟨rfl, rfl⟩
  · obtain ⟨bG, cG, b, c, e1, e2, hcG, hc⟩ := h.forms hl h0
    subst e1 e2
    have c1 : w.cell? ⟨g, 1, none⟩ = some (.slice (some ⟨b, 0, none⟩) L.length c) := h.1.cell 1
    have H := Lib.hid h
    have HN := Lib.hid hn
    clear h hn
    go_enter Try.func22, Try.ntmps22
    go_wp2_with fail
    go_loop [6] (fun i => ∃ k : Nat, k ≤ L.length ∧ i = .int .i64 k) (fun i => L.length - (intOf i).toNat)
    case atStart => exact ⟨0, Nat.zero_le _, rfl⟩
    case round =>
      obtain ⟨k, hk, rfl⟩ := hrel
      by_cases hlt : k < L.length
      · obtain ⟨x, hx⟩ : ∃ x, L[k]? = some x := ⟨_, List.getElem?_eq_getElem hlt⟩
        obtain ⟨y, hy⟩ : ∃ y, gs[k]? = some y := ⟨_, List.getElem?_eq_getElem (by omega)⟩
        obtain ⟨⟨c0, -⟩, z0, x0, x1, x2⟩ := H.out.facts hx hy
        have hne : x.first = false ∨ (x.first = true ∧ (y == gr) = false) := by
          rcases hf : x.first with _ | _
          · exact .inl rfl
          · refine .inr ⟨rfl, ?_⟩
            have := HN.out k x hx hf
            rw [List.getD_eq_getElem?_getD, hy] at this
            simpa using this
        have hlk : (k : Int) < (gs.length : Int) := by omega
        clear hx hy
        rcases hne with hf | ⟨hf, hb⟩
        · rw [hf] at x2
          go_wp2_with fail
          go_round
          case rel => exact ⟨k + 1, by omega, by go_num⟩
          case measure => simp [intOf]; omega
        · rw [hf] at x2
          go_wp2_with fail
          go_round
          case rel => exact ⟨k + 1, by omega, by go_num⟩
          case measure => simp [intOf]; omega
      · go_wp2_with fail
        go_ret2
        exact ⟨rfl, rfl⟩
set_option maxHeartbeats 1000000 in
set_option maxRecDepth 100000 in
theorem RFirst_some (B g : Nat) (gs : List Int) (L : List Lat) (w : World) (h : RAt B g gs L w) (hl : L.length = gs.length) (hL : L.length ≤ 1000000) (gr : Int) (f : Nat) (z : Lat) (hz : L[f]? = some z) (hzf : z.first = true) (hzg : gs.getD f 0 = gr) (hn : ∀ (i : Nat) (y : Lat), i < f → L[i]? = some y → y.first = true → gs.getD i 0 ≠ gr) :
    Calls Try.prog 22 #[.pointer (some ⟨g, 0, none⟩), .int .i64 gr] w fun e w' => e = .returned (.tuple #[.int .i64 f, .bool true]) ∧ w = w' := by
  obtain ⟨vG, vL, h⟩ := h
  have hfl : f < L.length := (List.getElem?_eq_some_iff.1 hz).1
  obtain ⟨bG, cG, b, c, e1, e2, hcG, hc⟩ := h.forms hl (by omega)
  subst e1 e2
  have c1 : w.cell? ⟨g, 1, none⟩ = some (.slice (some ⟨b, 0, none⟩) L.length c) := h.1.cell 1
  have H := Lib.hid h
  have HN := Lib.hid hn
  have HZ := Lib.hid hz
  have HZF := Lib.hid hzf
  have HZG := Lib.hid hzg
  clear h hn hz hzf hzg
  go_enter Try.func22, Try.ntmps22
  go_wp2_with fail
  go_loop [6] (fun i => ∃ k : Nat, k ≤ f ∧ i = .int .i64 k) (fun i => L.length - (intOf i).toNat)
  case atStart => exact ⟨0, Nat.zero_le _, rfl⟩
  case round =>
    obtain ⟨k, hk, rfl⟩ := hrel
    have hlt : k < L.length := by omega
    obtain ⟨x, hx⟩ : ∃ x, L[k]? = some x := ⟨_, List.getElem?_eq_getElem hlt⟩
    obtain ⟨y, hy⟩ : ∃ y, gs[k]? = some y := ⟨_, List.getElem?_eq_getElem (by omega)⟩
    obtain ⟨⟨c0, -⟩, z0, x0, x1, x2⟩ := H.out.facts hx hy
    have hlk : (k : Int) < (gs.length : Int) := by omega
    by_cases hkf : k = f
    · subst hkf
      have hf : x.first = true := by have := HZ.out; rw [hx] at this; injection this with this; rw [this]; exact HZF.out
      have hb : (y == gr) = true := by have := HZG.out; rw [List.getD_eq_getElem?_getD, hy] at this; simpa using this
      clear hx hy
      rw [hf] at x2
      go_wp2_with fail
      go_ret2
      exact ⟨rfl, rfl⟩
    · have hne : x.first = false ∨ (x.first = true ∧ (y == gr) = false) := by
        rcases hf : x.first with _ | _
        · exact .inl rfl
        · refine .inr ⟨rfl, ?_⟩
          have := HN.out k x (by omega) hx hf
          rw [List.getD_eq_getElem?_getD, hy] at this
          simpa using this
      clear hx hy
      rcases hne with hf | ⟨hf, hb⟩
      · rw [hf] at x2
        go_wp2_with fail
        go_round
        case rel => exact ⟨k + 1, by omega, by go_num⟩
        case measure => simp [intOf]; omega
      · rw [hf] at x2
        go_wp2_with fail
        go_round
        case rel => exact ⟨k + 1, by omega, by go_num⟩
        case measure => simp [intOf]; omega
/-- one of the document's is laid anew: three stores -/
theorem RVt.put {B g b c n : Nat} {gs : List Int} {L : List Lat} {vG : Value} {k : Nat} {y : Lat} {w : World} (h : RVt B g gs L vG (.slice (some ⟨b, 0, none⟩) n c) w) (hn : n = L.length) (hy : L[k]? = some y) (x : Lat) :
    RVt B g gs (L.set k x) vG (.slice (some ⟨b, 0, none⟩) n c) (((w.setCell ⟨b, k * 3, none⟩ (.bool x.set)).setCell ⟨b, k * 3 + 1, none⟩ (.int .i64 x.at_)).setCell ⟨b, k * 3 + 2, none⟩ (.bool x.first)) ∧
    ROth B w (((w.setCell ⟨b, k * 3, none⟩ (.bool x.set)).setCell ⟨b, k * 3 + 1, none⟩ (.int .i64 x.at_)).setCell ⟨b, k * 3 + 2, none⟩ (.bool x.first)) := by
  subst hn
  obtain ⟨cs, hcs⟩ := own_obj h.2.2.1 (k := b) rfl
  have hbB := (h.2.2.1.lt b rfl).1
  have hgb : g ≠ b := by
    rintro rfl
    have := h.1
    unfold Words.Blk at this
    rw [hcs] at this; injection this with e; injection e with _ e; cases e
  have h1 := (ROth.set_ (B := B) hcs (.inr rfl) hbB (k * 3) (.bool x.set))
  have hc1 : (w.setCell ⟨b, k * 3, none⟩ (.bool x.set)).heap[b]? = some (Obj.cells (cs.setIfInBounds (k * 3) (.bool x.set)) 37 (0, 0)) := heap_setCell_same w b (k * 3) cs 37 _ hcs
  have h2 := (ROth.set_ (B := B) hc1 (.inr rfl) hbB (k * 3 + 1) (.int .i64 x.at_))
  have hc2 := heap_setCell_same _ b (k * 3 + 1) _ 37 (.int .i64 x.at_) hc1
  have h3 := (ROth.set_ (B := B) hc2 (.inr rfl) hbB (k * 3 + 2) (.bool x.first))
  have hfar : ∀ m, m ≠ b → (((w.setCell ⟨b, k * 3, none⟩ (.bool x.set)).setCell ⟨b, k * 3 + 1, none⟩ (.int .i64 x.at_)).setCell ⟨b, k * 3 + 2, none⟩ (.bool x.first)).heap[m]? = w.heap[m]? := fun m hm =>
    ((Below.heap_setCell _ ⟨b, k * 3 + 2, none⟩ _ _ hm).trans (Below.heap_setCell _ ⟨b, k * 3 + 1, none⟩ _ _ hm)).trans (Below.heap_setCell _ ⟨b, k * 3, none⟩ _ _ hm)
  refine ⟨⟨(hfar g hgb).trans h.1, own_kept h.2.1 (fun m hm => hfar m ?_), ?_, h.2.2.2⟩, (h1.trans h2).trans h3⟩
  · rintro rfl
    obtain ⟨cs', h'⟩ := own_obj h.2.1 hm
    rw [hcs] at h'; injection h' with e; injection e with _ e; cases e
  · rw [List.length_set]
    exact row_store h.2.2.1 hy x
def rreset (L : List Lat) (i : Int) : Bool × List Lat := if 0 ≤ i ∧ i < L.length ∧ (ratL L i).set = true then (true, L.set i.toNat ⟨false, 0, false⟩) else (false, L)
set_option maxRecDepth 100000 in
theorem RReset_any (B g : Nat) (gs : List Int) (L : List Lat) (w : World) (h : RAt B g gs L w) (hB : B ≤ w.heap.size) (i : Int) :
    Calls Try.prog 11 #[.pointer (some ⟨g, 0, none⟩), .int .i64 i] w fun e w' => e = .returned (.bool (rreset L i).1) ∧ RAt B g gs (rreset L i).2 w' ∧ ROth B w w' := by
  have H := Lib.hid h
  unfold rreset
  rcases rat_cases L i with ⟨hi, e⟩ | ⟨k, x, rfl, hx, e⟩
  · rw [if_neg (fun h => hi ⟨h.1, h.2.1⟩)]
    have hd : decide (0 ≤ i ∧ i < (L.length : Int)) = false := decide_eq_false hi
    have HD := Lib.hid hd
    clear h hd hi e
    go_enter Try.func11, Try.ntmps11
    go_wp2_with fail
    refine (there_any B g gs L _ H.out i).mono ?_
    rintro e w1 ⟨rfl, rfl⟩
    rw [HD.out]
    go_wp2_with fail
    go_ret
    exact ⟨rfl, H.out, ROth.of_below (Below.refl _ _) hB⟩
  · rw [e]
    have hk : k < L.length := (List.getElem?_eq_some_iff.1 hx).1
    obtain ⟨vG, vL, h⟩ := h
    obtain ⟨b, c, e, hc⟩ := own_some h.2.2.1 hk
    subst e
    have c1 : w.cell? ⟨g, 1, none⟩ = some (.slice (some ⟨b, 0, none⟩) L.length c) := h.1.cell 1
    obtain ⟨⟨x0, x1, x2⟩, f0, f1, f2⟩ := row_facts h.2.2.1 hx
    have hd : decide (0 ≤ (k : Int) ∧ (k : Int) < (L.length : Int)) = true := decide_eq_true (by omega)
    have HD := Lib.hid hd
    have HP := Lib.hid (h.put rfl hx ⟨false, 0, false⟩)
    clear h hd hx
    rcases hs : x.set with _ | _
    · rw [if_neg (fun h => by cases h.2.2)]
      rw [hs] at x0
      clear hs HP
      go_enter Try.func11, Try.ntmps11
      go_wp2_with fail
      refine (there_any B g gs L _ H.out k).mono ?_
      rintro e w1 ⟨rfl, rfl⟩
      rw [HD.out]
      go_wp2_with fail
      go_ret
      exact ⟨rfl, H.out, ROth.of_below (Below.refl _ _) hB⟩
    · rw [if_pos ⟨by omega, by omega, rfl⟩]
      rw [hs] at x0
      clear hs
      simp only [Int.toNat_natCast]
      go_enter Try.func11, Try.ntmps11
      go_wp2_with fail
      refine (there_any B g gs L _ H.out k).mono ?_
      rintro e w1 ⟨rfl, rfl⟩
      rw [HD.out]
      go_wp2_with fail
      go_ret
      exact ⟨rfl, ⟨_, _, HP.out.1⟩, HP.out.2⟩
end Go.Proofs.Ytcaobjmngdlklaa
