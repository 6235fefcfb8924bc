/-
  The document's parser: lists of names, Lamps, lamp, named, fresh and places, walked where nothing is wrong.
-/
import Derived.Test.YtbpenoelmangkaaParNum
namespace Go.Proofs.Ytbpenoelmangkaa
open Go.RowKit
def StrsIs (l : List ByteArray) (w : World) (e : Ending) (w' : World) : Prop := ∃ v, e = .returned v ∧ StrsAt w' l v ∧ Below w.heap.size w w'
set_option maxHeartbeats 4000000 in
set_option maxRecDepth 100000 in
theorem devNames_any (w : World) (m : Mat) (vd vp vc ve : Value) (h : MatAt w m vd vp vc ve) (hm : m.devs.length ≤ 1000) :
    Calls Try.prog 73 #[m.val vd vp vc ve] w (StrsIs (m.devs.map (·.name)) w) := by
  obtain ⟨i0, hi0, hz0, hz1, hz2⟩ := string_parts
  obtain ⟨r, wt, bk, cy, key, ds, ps, cs, es⟩ := m
  obtain ⟨Ad, cd, e, hcd, -⟩ := id h.1
  simp only at e
  subst e
  obtain ⟨Ap, cp, e, hcp, -⟩ := id h.2.1
  simp only at e
  subst e
  obtain ⟨Ac, cc, e, hcc, -⟩ := id h.2.2.1.1
  simp only at e
  subst e
  obtain ⟨Ae, ce, e, hce, -⟩ := id h.2.2.2.1
  simp only at e
  subst e
  have HL := Lib.hid h
  simp only at hm
  clear h
  unfold Mat.val
  simp only
  go_enter Try.func73, Try.ntmps73
  obtain ⟨bx, hbx⟩ : ∃ bx : Array Value, bx = #[.int .i64 r, .int .i64 wt, .int .i64 bk, .int .i64 cy, .string key, .slice Ad ds.length cd, .slice Ap ps.length cp, .slice Ac cs.length cc, .slice Ae es.length ce] := ⟨_, rfl⟩
  have HBX := Lib.hid hbx
  have HI : Hid (NamesIs w w.heap.size bx [] 0 (.slice none 0 0) (w.alloc (.cells bx 27))) := Lib.hid ⟨rfl, World.ownsRow_nil _ _ _ _, (Below.refl _ _).alloc (Nat.le_refl _) _, Words.Blk.new w _ _⟩
  rw [hbx] at HI
  clear hbx
  have HI0 := HI
  clear HI
  go_wp2_with fail
  go_loopw [3, 4] (fun o i wr => ∃ k n : Nat, k ≤ ds.length ∧ i = .int .i64 k ∧ Hid (NamesIs w w.heap.size bx (([] : List ByteArray) ++ (ds.take k).map (·.name)) n o wr)) (fun _ i _ => ds.length - (intOf i).toNat)
  case atStart => exact ⟨0, 0, Nat.zero_le _, rfl, Lib.hid (by have h := HI0.out; rw [HBX.out]; exact h)⟩
  case round =>
    clear HI0
    obtain ⟨k, n, hk, rfl, HI⟩ := hrel
    have z5 : wr.cell? ⟨w.heap.size, 5, none⟩ = some (.slice Ad ds.length cd) := by have := HI.out.2.2.2.cell 5; rw [HBX.out] at this; exact this
    have hn : n ≤ ds.length := by have := HI.out.1; simp at this; omega
    have hk0 : (0 : Int) ≤ (k : Int) := by omega
    by_cases hlt : k < ds.length
    · obtain ⟨x, hx⟩ : ∃ x, ds[k]? = some x := ⟨_, List.getElem?_eq_getElem hlt⟩
      obtain ⟨b, off, hA, hb, hcell⟩ := row_at (LawFrame.RowsAt.below HL.out.1 HI.out.2.2.1) hx
      subst hA
      have y0 : wr.cell? ⟨b, off + k * 3, none⟩ = some (.string x.name) := hcell 0 _ rfl
      have HX := Lib.hid hx
      have HO := Lib.hid (one_str x.name)
      have hk1 : (k : Int) < (ds.length : Int) := by omega
      have hwr := HI.out.2.2.1.size
      clear hcell hx hb
      go_wp2_with (at_builtin; refine Words.wpList_append_any _ rfl (.tmp 12) (.tmp 19) _ rfl w.heap.size 9 i0 _ 1 16 Try.underlying62 hi0 hz0 hz1 hz2 rfl (by omega) u3 n _ rfl (HI.out.2.1.alloc _) (wr.heap.size + 1) (some ⟨wr.heap.size, 0, none⟩) 1 1 (sC x.name) rfl (reads_str _ _ rfl x.name _) HO.out (by simp only [maxLen]; omega) (by omega) (by simp; omega) ?_; intro v' w2 ho hg hat; have HI2 := Lib.hid (HI.out.app ho hg (take_next (·.name) _ _ HX.out)); clear ho hg hat HI)
      go_roundw
      case rel => exact ⟨k + 1, n + 1, by omega, by go_num, HI2⟩
      case measure => simp [intOf]; omega
    · have HF : Hid (NamesIs w w.heap.size bx (ds.map (·.name)) n u3 wr) := Lib.hid (by have h := HI.out; rw [List.take_of_length_le (by omega)] at h; simpa using h)
      have hk2 : ¬ (k : Int) < (ds.length : Int) := by omega
      clear HI
      go_wp2_with fail
      go_ret
      exact ⟨_, rfl, LawFrame.RowsAt.of_own sC_len (by decide) HF.out.2.1, HF.out.2.2.1⟩
set_option maxHeartbeats 4000000 in
set_option maxRecDepth 100000 in
theorem ptNames_any (w : World) (m : Mat) (vd vp vc ve : Value) (h : MatAt w m vd vp vc ve) (hm : m.pts.length ≤ 1000) :
    Calls Try.prog 76 #[m.val vd vp vc ve] w (StrsIs (m.pts.map (·.name)) w) := by
  obtain ⟨i0, hi0, hz0, hz1, hz2⟩ := string_parts
  obtain ⟨r, wt, bk, cy, key, ds, ps, cs, es⟩ := m
  obtain ⟨Ad, cd, e, hcd, -⟩ := id h.1
  simp only at e
  subst e
  obtain ⟨Ap, cp, e, hcp, -⟩ := id h.2.1
  simp only at e
  subst e
  obtain ⟨Ac, cc, e, hcc, -⟩ := id h.2.2.1.1
  simp only at e
  subst e
  obtain ⟨Ae, ce, e, hce, -⟩ := id h.2.2.2.1
  simp only at e
  subst e
  have HL := Lib.hid h
  simp only at hm
  clear h
  unfold Mat.val
  simp only
  go_enter Try.func76, Try.ntmps76
  obtain ⟨bx, hbx⟩ : ∃ bx : Array Value, bx = #[.int .i64 r, .int .i64 wt, .int .i64 bk, .int .i64 cy, .string key, .slice Ad ds.length cd, .slice Ap ps.length cp, .slice Ac cs.length cc, .slice Ae es.length ce] := ⟨_, rfl⟩
  have HBX := Lib.hid hbx
  have HI : Hid (NamesIs w w.heap.size bx [] 0 (.slice none 0 0) (w.alloc (.cells bx 27))) := Lib.hid ⟨rfl, World.ownsRow_nil _ _ _ _, (Below.refl _ _).alloc (Nat.le_refl _) _, Words.Blk.new w _ _⟩
  rw [hbx] at HI
  clear hbx
  have HI0 := HI
  clear HI
  go_wp2_with fail
  go_loopw [3, 4] (fun o i wr => ∃ k n : Nat, k ≤ ps.length ∧ i = .int .i64 k ∧ Hid (NamesIs w w.heap.size bx (([] : List ByteArray) ++ (ps.take k).map (·.name)) n o wr)) (fun _ i _ => ps.length - (intOf i).toNat)
  case atStart => exact ⟨0, 0, Nat.zero_le _, rfl, Lib.hid (by have h := HI0.out; rw [HBX.out]; exact h)⟩
  case round =>
    clear HI0
    obtain ⟨k, n, hk, rfl, HI⟩ := hrel
    have z5 : wr.cell? ⟨w.heap.size, 6, none⟩ = some (.slice Ap ps.length cp) := by have := HI.out.2.2.2.cell 6; rw [HBX.out] at this; exact this
    have hn : n ≤ ps.length := by have := HI.out.1; simp at this; omega
    have hk0 : (0 : Int) ≤ (k : Int) := by omega
    by_cases hlt : k < ps.length
    · obtain ⟨x, hx⟩ : ∃ x, ps[k]? = some x := ⟨_, List.getElem?_eq_getElem hlt⟩
      obtain ⟨b, off, hA, hb, hcell⟩ := row_at (LawFrame.RowsAt.below HL.out.2.1 HI.out.2.2.1) hx
      subst hA
      have y0 : wr.cell? ⟨b, off + k * 6, none⟩ = some (.string x.name) := hcell 0 _ rfl
      have HX := Lib.hid hx
      have HO := Lib.hid (one_str x.name)
      have hk1 : (k : Int) < (ps.length : Int) := by omega
      have hwr := HI.out.2.2.1.size
      clear hcell hx hb
      go_wp2_with (at_builtin; refine Words.wpList_append_any _ rfl (.tmp 12) (.tmp 19) _ rfl w.heap.size 9 i0 _ 1 16 Try.underlying62 hi0 hz0 hz1 hz2 rfl (by omega) u3 n _ rfl (HI.out.2.1.alloc _) (wr.heap.size + 1) (some ⟨wr.heap.size, 0, none⟩) 1 1 (sC x.name) rfl (reads_str _ _ rfl x.name _) HO.out (by simp only [maxLen]; omega) (by omega) (by simp; omega) ?_; intro v' w2 ho hg hat; have HI2 := Lib.hid (HI.out.app ho hg (take_next (·.name) _ _ HX.out)); clear ho hg hat HI)
      go_roundw
      case rel => exact ⟨k + 1, n + 1, by omega, by go_num, HI2⟩
      case measure => simp [intOf]; omega
    · have HF : Hid (NamesIs w w.heap.size bx (ps.map (·.name)) n u3 wr) := Lib.hid (by have h := HI.out; rw [List.take_of_length_le (by omega)] at h; simpa using h)
      have hk2 : ¬ (k : Int) < (ps.length : Int) := by omega
      clear HI
      go_wp2_with fail
      go_ret
      exact ⟨_, rfl, LawFrame.RowsAt.of_own sC_len (by decide) HF.out.2.1, HF.out.2.2.1⟩
set_option maxHeartbeats 4000000 in
set_option maxRecDepth 100000 in
theorem csNames_any (w : World) (m : Mat) (vd vp vc ve : Value) (h : MatAt w m vd vp vc ve) (hm : m.css.length ≤ 1000) :
    Calls Try.prog 77 #[m.val vd vp vc ve] w (StrsIs (m.css.map (·.name)) w) := by
  obtain ⟨i0, hi0, hz0, hz1, hz2⟩ := string_parts
  obtain ⟨r, wt, bk, cy, key, ds, ps, cs, es⟩ := m
  obtain ⟨Ad, cd, e, hcd, -⟩ := id h.1
  simp only at e
  subst e
  obtain ⟨Ap, cp, e, hcp, -⟩ := id h.2.1
  simp only at e
  subst e
  obtain ⟨Ac, cc, e, hcc, -⟩ := id h.2.2.1.1
  simp only at e
  subst e
  obtain ⟨Ae, ce, e, hce, -⟩ := id h.2.2.2.1
  simp only at e
  subst e
  have HL := Lib.hid h
  simp only at hm
  clear h
  unfold Mat.val
  simp only
  go_enter Try.func77, Try.ntmps77
  obtain ⟨bx, hbx⟩ : ∃ bx : Array Value, bx = #[.int .i64 r, .int .i64 wt, .int .i64 bk, .int .i64 cy, .string key, .slice Ad ds.length cd, .slice Ap ps.length cp, .slice Ac cs.length cc, .slice Ae es.length ce] := ⟨_, rfl⟩
  have HBX := Lib.hid hbx
  have HI : Hid (NamesIs w w.heap.size bx [] 0 (.slice none 0 0) (w.alloc (.cells bx 27))) := Lib.hid ⟨rfl, World.ownsRow_nil _ _ _ _, (Below.refl _ _).alloc (Nat.le_refl _) _, Words.Blk.new w _ _⟩
  rw [hbx] at HI
  clear hbx
  have HI0 := HI
  clear HI
  go_wp2_with fail
  go_loopw [3, 4] (fun o i wr => ∃ k n : Nat, k ≤ cs.length ∧ i = .int .i64 k ∧ Hid (NamesIs w w.heap.size bx (([] : List ByteArray) ++ (cs.take k).map (·.name)) n o wr)) (fun _ i _ => cs.length - (intOf i).toNat)
  case atStart => exact ⟨0, 0, Nat.zero_le _, rfl, Lib.hid (by have h := HI0.out; rw [HBX.out]; exact h)⟩
  case round =>
    clear HI0
    obtain ⟨k, n, hk, rfl, HI⟩ := hrel
    have z5 : wr.cell? ⟨w.heap.size, 7, none⟩ = some (.slice Ac cs.length cc) := by have := HI.out.2.2.2.cell 7; rw [HBX.out] at this; exact this
    have hn : n ≤ cs.length := by have := HI.out.1; simp at this; omega
    have hk0 : (0 : Int) ≤ (k : Int) := by omega
    by_cases hlt : k < cs.length
    · obtain ⟨x, hx⟩ : ∃ x, cs[k]? = some x := ⟨_, List.getElem?_eq_getElem hlt⟩
      obtain ⟨b, off, hA, hb, hcell⟩ := row_at (HL.out.2.2.1.below HI.out.2.2.1).1 hx
      subst hA
      have y0 : wr.cell? ⟨b, off + k * 5, none⟩ = some (.string x.name) := hcell 0 _ rfl
      have HX := Lib.hid hx
      have HO := Lib.hid (one_str x.name)
      have hk1 : (k : Int) < (cs.length : Int) := by omega
      have hwr := HI.out.2.2.1.size
      clear hcell hx hb
      go_wp2_with (at_builtin; refine Words.wpList_append_any _ rfl (.tmp 12) (.tmp 19) _ rfl w.heap.size 9 i0 _ 1 16 Try.underlying62 hi0 hz0 hz1 hz2 rfl (by omega) u3 n _ rfl (HI.out.2.1.alloc _) (wr.heap.size + 1) (some ⟨wr.heap.size, 0, none⟩) 1 1 (sC x.name) rfl (reads_str _ _ rfl x.name _) HO.out (by simp only [maxLen]; omega) (by omega) (by simp; omega) ?_; intro v' w2 ho hg hat; have HI2 := Lib.hid (HI.out.app ho hg (take_next (·.name) _ _ HX.out)); clear ho hg hat HI)
      go_roundw
      case rel => exact ⟨k + 1, n + 1, by omega, by go_num, HI2⟩
      case measure => simp [intOf]; omega
    · have HF : Hid (NamesIs w w.heap.size bx (cs.map (·.name)) n u3 wr) := Lib.hid (by have h := HI.out; rw [List.take_of_length_le (by omega)] at h; simpa using h)
      have hk2 : ¬ (k : Int) < (cs.length : Int) := by omega
      clear HI
      go_wp2_with fail
      go_ret
      exact ⟨_, rfl, LawFrame.RowsAt.of_own sC_len (by decide) HF.out.2.1, HF.out.2.2.1⟩
theorem FindIs.yes {l : List ByteArray} {s : ByteArray} {w w' : World} {e : Ending} (h : FindIs l s w e w') {k : Nat} (hk : l[k]? = some s) (hu : Upto (fun _ x => ¬ x = s) l k) : e = .returned (.int .i64 (k : Int)) ∧ w = w' := by
  obtain ⟨r, rfl, rfl, ⟨-, hn⟩ | ⟨j, rfl, hj, hv⟩⟩ := h
  · exact absurd (List.mem_of_getElem? hk) hn
  · refine ⟨?_, rfl⟩
    rcases Nat.lt_trichotomy j k with h | h | h
    · exact absurd rfl (hu j s h hj)
    · rw [h]
    · exact absurd rfl (hv k s h hk)
theorem FindIs.no {l : List ByteArray} {s : ByteArray} {w w' : World} {e : Ending} (h : FindIs l s w e w') (hn : ¬ s ∈ l) : e = .returned (.int .i64 (-1)) ∧ w = w' := by
  obtain ⟨r, rfl, rfl, ⟨rfl, -⟩ | ⟨j, rfl, hj, hv⟩⟩ := h
  · exact ⟨rfl, rfl⟩
  · exact absurd (List.mem_of_getElem? hj) hn
set_option maxHeartbeats 4000000 in
set_option maxRecDepth 100000 in
theorem pnamed_any (w : World) (p : Value) (l : List ByteArray) (v : Value) (h : StrsAt w l v) (hl : l.length ≤ 1000) (s : ByteArray) (k : Nat) (hk : l[k]? = some s) (hu : Upto (fun _ x => ¬ x = s) l k) :
    Calls Try.prog 72 #[p, v, .string s] w fun e w' => e = .returned (.int .i64 (k : Int)) ∧ w = w' := by
  obtain ⟨A, c, e, hc, -⟩ := id h
  subst e
  have HL := Lib.hid h
  have HK := Lib.hid hk
  have HU := Lib.hid hu
  have hk0 : (0 : Int) ≤ (k : Int) := by omega
  clear h hk hu
  go_enter Try.func72, Try.ntmps72
  go_wp2_with fail
  refine (find_any _ l _ HL.out (by omega) s).mono ?_
  intro e w1 hf
  obtain ⟨rfl, rfl⟩ := hf.yes HK.out HU.out
  clear hf
  go_wp2_with fail
  go_ret
  exact ⟨rfl, rfl⟩
def lampsL : List ByteArray := [⟨#[]⟩, ⟨#[97]⟩, ⟨#[109]⟩, ⟨#[114]⟩, ⟨#[102, 49, 97]⟩, ⟨#[102, 50, 109]⟩, ⟨#[102, 51, 97]⟩]
set_option maxHeartbeats 4000000 in
set_option maxRecDepth 100000 in
theorem lamps_any (w : World) : Calls Try.prog 83 #[] w (StrsIs lampsL w) := by
  have HB := Lib.hid ((Below.refl w.heap.size w).alloc (Nat.le_refl _) (.cells #[.string ⟨#[]⟩, .string ⟨#[97]⟩, .string ⟨#[109]⟩, .string ⟨#[114]⟩, .string ⟨#[102, 49, 97]⟩, .string ⟨#[102, 50, 109]⟩, .string ⟨#[102, 51, 97]⟩] 9))
  have HO : Hid ((w.alloc (.cells #[.string ⟨#[]⟩, .string ⟨#[97]⟩, .string ⟨#[109]⟩, .string ⟨#[114]⟩, .string ⟨#[102, 49, 97]⟩, .string ⟨#[102, 50, 109]⟩, .string ⟨#[102, 51, 97]⟩] 9)).ownsRow w.heap.size 9 1 (.slice (some ⟨w.heap.size, 0, none⟩) 7 7) 7 (lampsL.flatMap sC)) := Lib.hid (by
    have h := World.ownsRow_lit (base := w.heap.size) (e := 9) (size := 1) w #[.string ⟨#[]⟩, .string ⟨#[97]⟩, .string ⟨#[109]⟩, .string ⟨#[114]⟩, .string ⟨#[102, 49, 97]⟩, .string ⟨#[102, 50, 109]⟩, .string ⟨#[102, 51, 97]⟩] 7 (Nat.le_refl _) (by simp only [maxLen]; omega) rfl
    exact h)
  go_enter Try.func83, Try.ntmps83
  go_wp2_with fail
  go_ret
  exact ⟨_, rfl, LawFrame.RowsAt.of_own sC_len (by decide) HO.out, HB.out⟩
set_option maxHeartbeats 4000000 in
set_option maxRecDepth 100000 in
theorem lamp_any (w : World) (p : Value) (s : ByteArray) (k : Nat) (hk : lampsL[k]? = some s) (hu : Upto (fun _ x => ¬ x = s) lampsL k) (h1 : 1 ≤ k) :
    Calls Try.prog 74 #[p, .string s] w fun e w' => e = .returned (.int .i64 (k : Int)) ∧ Below w.heap.size w w' := by
  have HK := Lib.hid hk
  have HU := Lib.hid hu
  have hk0 : (1 : Int) ≤ (k : Int) := by omega
  clear hk hu
  go_enter Try.func74, Try.ntmps74
  go_wp2_with fail
  refine (lamps_any _).mono ?_
  rintro e w1 ⟨v, rfl, hv, hb⟩
  obtain ⟨A, c, e, hc, -⟩ := id hv
  subst e
  have HV := Lib.hid hv
  have HB := Lib.hid hb
  clear hv hb
  go_wp2_with fail
  refine (find_any _ lampsL _ HV.out (by decide) s).mono ?_
  intro e w2 hf
  obtain ⟨rfl, rfl⟩ := hf.yes HK.out HU.out
  clear hf
  go_wp2_with fail
  go_ret
  exact ⟨rfl, HB.out⟩
set_option maxHeartbeats 4000000 in
set_option maxRecDepth 100000 in
/-- names of some, each there -/
theorem places_any (w : World) (p : Value) (l ws : List ByteArray) (vl vw : Value) (hl : StrsAt w l vl) (hll : l.length ≤ 1000) (hw : StrsAt w ws vw) (hwl : ws.length ≤ 1000) (is : List Int) (hil : is.length = ws.length)
    (hi : ∀ (j : Nat) (s : ByteArray), ws[j]? = some s → ∃ k : Nat, is[j]? = some (k : Int) ∧ l[k]? = some s ∧ Upto (fun _ x => ¬ x = s) l k) :
    Calls Try.prog 75 #[p, vl, vw] w fun e w' => ∃ v, e = .returned v ∧ w'.ownsRow w.heap.size 3 1 v is.length (is.flatMap nC) ∧ Below w.heap.size w w' := by
  obtain ⟨i0, hi0, hz0, hz1, hz2⟩ := int_parts
  obtain ⟨A, c, e, hc, -⟩ := id hl
  subst e
  obtain ⟨B, d, e, hd, -⟩ := id hw
  subst e
  have HL := Lib.hid hl
  have HWS := Lib.hid hw
  have HII := Lib.hid hi
  have HIL := Lib.hid hil
  clear hl hw hi hil
  have HI0 : Hid (PickIs w (is.take 0) 0 (.slice none 0 0) w) := Lib.hid ⟨rfl, World.ownsRow_nil _ _ _ _, Below.refl _ _⟩
  go_enter Try.func75, Try.ntmps75
  go_wp2_with fail
  go_loopw [7, 8] (fun o i wr => ∃ k : Nat, k ≤ ws.length ∧ i = .int .i64 k ∧ Hid (PickIs w (is.take k) k o wr)) (fun _ i _ => ws.length - (intOf i).toNat)
  case atStart => exact ⟨0, Nat.zero_le _, rfl, HI0⟩
  case round =>
    clear HI0
    obtain ⟨k, hk, rfl, HI⟩ := hrel
    have hk0 : (0 : Int) ≤ (k : Int) := by omega
    by_cases hlt : k < ws.length
    · obtain ⟨x, hx⟩ : ∃ x, ws[k]? = some x := ⟨_, List.getElem?_eq_getElem hlt⟩
      obtain ⟨b, off, hA, hcell⟩ := one_at (LawFrame.RowsAt.below HWS.out HI.out.2.2) hx
      subst hA
      have y0 := hcell _ rfl
      obtain ⟨j, hj1, hj2, hj3⟩ := HII.out k x hx
      have HJ1 := Lib.hid hj1
      have HJ2 := Lib.hid hj2
      have HJ3 := Lib.hid hj3
      have hk1 : (k : Int) < (ws.length : Int) := by omega
      have hwr := HI.out.2.2.size
      have HTK : Hid (is.take (k + 1) = is.take k ++ [(j : Int)]) := Lib.hid (by rw [List.take_add_one, hj1]; rfl)
      have HO := Lib.hid (one_int (j : Int))
      clear hcell hx hj1 hj2 hj3
      go_wp2_with fail
      refine (pnamed_any _ p l _ (LawFrame.RowsAt.below HL.out HI.out.2.2) hll x j HJ2.out HJ3.out).mono ?_
      rintro e w1 ⟨rfl, rfl⟩
      go_wp2_with (at_builtin; refine Words.wpList_append_any _ rfl (.tmp 23) (.tmp 25) _ rfl w.heap.size 3 i0 _ 1 8 Try.underlying36 hi0 hz0 hz1 hz2 rfl (by omega) u7 k _ rfl (HI.out.2.1.alloc _) (wr.heap.size + 1) (some ⟨wr.heap.size, 0, none⟩) 1 1 (nC (j : Int)) rfl (reads_int _ _ rfl (j : Int) _) HO.out (by simp only [maxLen]; omega) (by omega) (by simp; omega) ?_; intro v' w2 ho hg hat; have HI2 := Lib.hid (HI.out.app ho hg HTK.out); clear ho hg hat HI)
      go_roundw
      case rel => exact ⟨k + 1, by omega, by go_num, HI2⟩
      case measure => simp [intOf]; omega
    · have hkl : k = ws.length := by omega
      have HF : Hid (PickIs w is is.length u7 wr) := Lib.hid (by have h := HI.out; rw [hkl, ← HIL.out, List.take_length] at h; exact h)
      clear hkl HI
      have hk2 : ¬ (k : Int) < (ws.length : Int) := by omega
      go_wp2_with fail
      go_ret
      exact ⟨_, rfl, HF.out.2.1, HF.out.2.2⟩
end Go.Proofs.Ytbpenoelmangkaa
