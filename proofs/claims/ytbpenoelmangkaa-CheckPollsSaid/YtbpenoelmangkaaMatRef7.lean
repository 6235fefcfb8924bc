/-
  The list of all names, walked.
-/
import Derived.Test.YtbpenoelmangkaaMatRef6
namespace Go.Proofs.Ytbpenoelmangkaa
open Go.RowKit
theorem string_info : (Try.prog.info? 9).map (fun i => (i.zero, i.size, i.bytes)) = some (some (.string (ByteArray.mk #[])), 1, 16) := by kernel_rfl
theorem string_parts : ∃ i, Try.prog.info? 9 = some i ∧ i.zero = some (.string (ByteArray.mk #[])) ∧ i.size = 1 ∧ i.bytes = 16 := by
  have h := string_info
  cases e : Try.prog.info? 9 with
  | none => rw [e] at h; cases h
  | some i =>
    rw [e] at h
    simp only [Option.map_some, Option.some.injEq, Prod.mk.injEq] at h
    exact ⟨i, rfl, h.1, h.2.1, h.2.2⟩
/-- the names that are gathered lie at vo, beside the matrix's own cells -/
def NamesIs (W0 : World) (g : Nat) (bx : Array Value) (l : List ByteArray) (n : Nat) (vo : Value) (wr : World) : Prop :=
  n = l.length ∧ wr.ownsRow W0.heap.size 9 1 vo n (l.flatMap sC) ∧ Below W0.heap.size W0 wr ∧ Words.Blk wr g 27 bx
theorem NamesIs.app {W0 wr w2 : World} {g n : Nat} {bx : Array Value} {l l' : List ByteArray} {s : ByteArray} {vo v' : Value} {ob : Obj} (h : NamesIs W0 g bx l n vo wr)
    (ho : w2.ownsRow W0.heap.size 9 1 v' (n + 1) (l.flatMap sC ++ sC s)) (hg : (wr.alloc ob).grownBy w2 vo.ownBlock) (hl : l' = l ++ [s]) : NamesIs W0 g bx l' (n + 1) v' w2 := by
  subst hl
  refine ⟨by simp [h.1], by simpa using ho, (h.2.2.1.alloc h.2.2.1.size ob).grown hg (by have := h.2.2.1.size; simp; omega) (fun k hk => (h.2.1.lt k hk).1), (h.2.2.2.alloc ob).grown hg (fun e => Words.own_blk_ne h.2.1 h.2.2.2 (by decide) e.symm)⟩
theorem reads_str (w : World) (g : Nat) (hg : w.heap.size = g) (x : ByteArray) (t : TypeId) : Words.Reads (w.alloc (.cells #[.string x] t)) (g + 1) 1 (some ⟨g, 0, none⟩) 1 (sC x) := by
  subst hg
  exact LawFrame.reads_block (xs := sC x) (t := t) (heap_alloc_new w _) (by omega) rfl
theorem one_str (x : ByteArray) : ∀ u ∈ sC x, u.oneCell' = true := by
  intro u hu
  simp only [sC, List.mem_singleton] at hu
  subst hu; rfl
theorem take_next {α : Type} (f : α → ByteArray) (P : List ByteArray) (l : List α) {k : Nat} {x : α} (hx : l[k]? = some x) : P ++ (l.take (k + 1)).map f = (P ++ (l.take k).map f) ++ [f x] := by
  rw [List.take_add_one, hx]
  simp
set_option maxHeartbeats 4000000 in
set_option maxRecDepth 100000 in
theorem rNames_any (w : World) (m : Mat) (vd vp vc ve : Value) (h : MatAt w m vd vp vc ve) (hm : m.devs.length + m.pts.length + m.css.length + m.efs.length ≤ 1000) :
    Calls Try.prog 28 #[m.val vd vp vc ve] w fun e w' => ∃ v, e = .returned v ∧ StrsAt w' m.names v ∧ Below w.heap.size w w' := by
  obtain ⟨i0, hi0, hz0, hz1, hz2⟩ := string_parts
  obtain ⟨r, wt, bk, cy, key, ds, ps, cs, es⟩ := m
  obtain ⟨Ad, cd, e, hcd, -⟩ := id h.1
  simp only at e
  subst e
  obtain ⟨Ap, cp, e, hcp, -⟩ := id h.2.1
  simp only at e
  subst e
  obtain ⟨Ac, cc, e, hcc, -⟩ := id h.2.2.1.1
  simp only at e
  subst e
  obtain ⟨Ae, ce, e, hce, -⟩ := id h.2.2.2.1
  simp only at e
  subst e
  have HL := Lib.hid h
  simp only at hm
  clear h
  unfold Mat.val
  simp only
  go_enter Try.func28, Try.ntmps28
  obtain ⟨bx, hbx⟩ : ∃ bx : Array Value, bx = #[.int .i64 r, .int .i64 wt, .int .i64 bk, .int .i64 cy, .string key, .slice Ad ds.length cd, .slice Ap ps.length cp, .slice Ac cs.length cc, .slice Ae es.length ce] := ⟨_, rfl⟩
  have HBX := Lib.hid hbx
  have HI : Hid (NamesIs w w.heap.size bx [] 0 (.slice none 0 0) (w.alloc (.cells bx 27))) := Lib.hid ⟨rfl, World.ownsRow_nil _ _ _ _, (Below.refl _ _).alloc (Nat.le_refl _) _, Words.Blk.new w _ _⟩
  rw [hbx] at HI
  clear hbx
  have HI0 := HI
  clear HI
  go_wp2_with fail
  go_loopw [3, 4] (fun o i wr => ∃ k n : Nat, k ≤ ds.length ∧ i = .int .i64 k ∧ Hid (NamesIs w w.heap.size bx (([] : List ByteArray) ++ (ds.take k).map (·.name)) n o wr)) (fun _ i _ => ds.length - (intOf i).toNat)
  case atStart => exact ⟨0, 0, Nat.zero_le _, rfl, Lib.hid (by have h := HI0.out; rw [HBX.out]; exact h)⟩
  case round =>
    clear HI0
    obtain ⟨k, n, hk, rfl, HI⟩ := hrel
    have z5 : wr.cell? ⟨w.heap.size, 5, none⟩ = some (.slice Ad ds.length cd) := by have := HI.out.2.2.2.cell 5; rw [HBX.out] at this; exact this
    have hn : n ≤ ds.length := by have := HI.out.1; simp at this; omega
    have hk0 : (0 : Int) ≤ (k : Int) := by omega
    by_cases hlt : k < ds.length
    · obtain ⟨x, hx⟩ : ∃ x, ds[k]? = some x := ⟨_, List.getElem?_eq_getElem hlt⟩
      obtain ⟨b, off, hA, hb, hcell⟩ := row_at (LawFrame.RowsAt.below HL.out.1 HI.out.2.2.1) hx
      subst hA
      have y0 : wr.cell? ⟨b, off + k * 3, none⟩ = some (.string x.name) := hcell 0 _ rfl
      have HX := Lib.hid hx
      have HO := Lib.hid (one_str x.name)
      have hk1 : (k : Int) < (ds.length : Int) := by omega
      have hwr := HI.out.2.2.1.size
      clear hcell hx hb
      go_wp2_with (at_builtin; refine Words.wpList_append_any _ rfl (.tmp 15) (.tmp 22) _ rfl w.heap.size 9 i0 _ 1 16 Try.underlying62 hi0 hz0 hz1 hz2 rfl (by omega) u3 n _ rfl (HI.out.2.1.alloc _) (wr.heap.size + 1) (some ⟨wr.heap.size, 0, none⟩) 1 1 (sC x.name) rfl (reads_str _ _ rfl x.name _) HO.out (by simp only [maxLen]; omega) (by omega) (by simp; omega) ?_; intro v' w2 ho hg hat; have HI2 := Lib.hid (HI.out.app ho hg (take_next (·.name) _ _ HX.out)); clear ho hg hat HI)
      go_roundw
      case rel => exact ⟨k + 1, n + 1, by omega, by go_num, HI2⟩
      case measure => simp [intOf]; omega
    · have HI0 : Hid (NamesIs w w.heap.size bx (([] : List ByteArray) ++ ds.map (·.name) ++ ([].take 0).map (fun x : Dev => x.name)) n u3 wr) := Lib.hid (by have h := HI.out; rw [List.take_of_length_le (by omega)] at h; simpa using h)
      have hk2 : ¬ (k : Int) < (ds.length : Int) := by omega
      clear HI
      go_wp2_with fail
      go_loopw [3, 5] (fun o i wr => ∃ k n : Nat, k ≤ ps.length ∧ i = .int .i64 k ∧ Hid (NamesIs w w.heap.size bx ((([] : List ByteArray) ++ ds.map (·.name)) ++ (ps.take k).map (·.name)) n o wr)) (fun _ i _ => ps.length - (intOf i).toNat)
      case atStart => exact ⟨0, n, Nat.zero_le _, rfl, HI0⟩
      case round =>
        clear HI0
        obtain ⟨k, n, hk, rfl, HI⟩ := hrel
        have z6 : wr.cell? ⟨w.heap.size, 6, none⟩ = some (.slice Ap ps.length cp) := by have := HI.out.2.2.2.cell 6; rw [HBX.out] at this; exact this
        have hn : n ≤ ds.length + ps.length := by have := HI.out.1; simp at this; omega
        have hk0 : (0 : Int) ≤ (k : Int) := by omega
        by_cases hlt : k < ps.length
        · obtain ⟨x, hx⟩ : ∃ x, ps[k]? = some x := ⟨_, List.getElem?_eq_getElem hlt⟩
          obtain ⟨b, off, hA, hb, hcell⟩ := row_at (LawFrame.RowsAt.below HL.out.2.1 HI.out.2.2.1) hx
          subst hA
          have y0 : wr.cell? ⟨b, off + k * 6, none⟩ = some (.string x.name) := hcell 0 _ rfl
          have HX := Lib.hid hx
          have HO := Lib.hid (one_str x.name)
          have hk1 : (k : Int) < (ps.length : Int) := by omega
          have hwr := HI.out.2.2.1.size
          clear hcell hx hb
          go_wp2_with (at_builtin; refine Words.wpList_append_any _ rfl (.tmp 31) (.tmp 38) _ rfl w.heap.size 9 i0 _ 1 16 Try.underlying62 hi0 hz0 hz1 hz2 rfl (by omega) u3 n _ rfl (HI.out.2.1.alloc _) (wr.heap.size + 1) (some ⟨wr.heap.size, 0, none⟩) 1 1 (sC x.name) rfl (reads_str _ _ rfl x.name _) HO.out (by simp only [maxLen]; omega) (by omega) (by simp; omega) ?_; intro v' w2 ho hg hat; have HI2 := Lib.hid (HI.out.app ho hg (take_next (·.name) _ _ HX.out)); clear ho hg hat HI)
          go_roundw
          case rel => exact ⟨k + 1, n + 1, by omega, by go_num, HI2⟩
          case measure => simp [intOf]; omega
        · have HI0 : Hid (NamesIs w w.heap.size bx ((([] : List ByteArray) ++ ds.map (·.name)) ++ ps.map (·.name) ++ ([].take 0).map (fun x : Dev => x.name)) n u3 wr) := Lib.hid (by have h := HI.out; rw [List.take_of_length_le (by omega)] at h; simpa using h)
          have hk2 : ¬ (k : Int) < (ps.length : Int) := by omega
          clear HI
          go_wp2_with fail
          go_loopw [3, 6] (fun o i wr => ∃ k n : Nat, k ≤ cs.length ∧ i = .int .i64 k ∧ Hid (NamesIs w w.heap.size bx (((([] : List ByteArray) ++ ds.map (·.name)) ++ ps.map (·.name)) ++ (cs.take k).map (·.name)) n o wr)) (fun _ i _ => cs.length - (intOf i).toNat)
          case atStart => exact ⟨0, n, Nat.zero_le _, rfl, HI0⟩
          case round =>
            clear HI0
            obtain ⟨k, n, hk, rfl, HI⟩ := hrel
            have z7 : wr.cell? ⟨w.heap.size, 7, none⟩ = some (.slice Ac cs.length cc) := by have := HI.out.2.2.2.cell 7; rw [HBX.out] at this; exact this
            have hn : n ≤ ds.length + ps.length + cs.length := by have := HI.out.1; simp at this; omega
            have hk0 : (0 : Int) ≤ (k : Int) := by omega
            by_cases hlt : k < cs.length
            · obtain ⟨x, hx⟩ : ∃ x, cs[k]? = some x := ⟨_, List.getElem?_eq_getElem hlt⟩
              obtain ⟨b, off, hA, hb, hcell⟩ := row_at (LawFrame.RowsAt.below HL.out.2.2.1.1 HI.out.2.2.1) hx
              subst hA
              have y0 : wr.cell? ⟨b, off + k * 5, none⟩ = some (.string x.name) := hcell 0 _ rfl
              have HX := Lib.hid hx
              have HO := Lib.hid (one_str x.name)
              have hk1 : (k : Int) < (cs.length : Int) := by omega
              have hwr := HI.out.2.2.1.size
              clear hcell hx hb
              go_wp2_with (at_builtin; refine Words.wpList_append_any _ rfl (.tmp 47) (.tmp 54) _ rfl w.heap.size 9 i0 _ 1 16 Try.underlying62 hi0 hz0 hz1 hz2 rfl (by omega) u3 n _ rfl (HI.out.2.1.alloc _) (wr.heap.size + 1) (some ⟨wr.heap.size, 0, none⟩) 1 1 (sC x.name) rfl (reads_str _ _ rfl x.name _) HO.out (by simp only [maxLen]; omega) (by omega) (by simp; omega) ?_; intro v' w2 ho hg hat; have HI2 := Lib.hid (HI.out.app ho hg (take_next (·.name) _ _ HX.out)); clear ho hg hat HI)
              go_roundw
              case rel => exact ⟨k + 1, n + 1, by omega, by go_num, HI2⟩
              case measure => simp [intOf]; omega
            · have HI0 : Hid (NamesIs w w.heap.size bx (((([] : List ByteArray) ++ ds.map (·.name)) ++ ps.map (·.name)) ++ cs.map (·.name) ++ ([].take 0).map (fun x : Dev => x.name)) n u3 wr) := Lib.hid (by have h := HI.out; rw [List.take_of_length_le (by omega)] at h; simpa using h)
              have hk2 : ¬ (k : Int) < (cs.length : Int) := by omega
              clear HI
              go_wp2_with fail
              go_loopw [3, 7] (fun o i wr => ∃ k n : Nat, k ≤ es.length ∧ i = .int .i64 k ∧ Hid (NamesIs w w.heap.size bx ((((([] : List ByteArray) ++ ds.map (·.name)) ++ ps.map (·.name)) ++ cs.map (·.name)) ++ (es.take k).map (·.name)) n o wr)) (fun _ i _ => es.length - (intOf i).toNat)
              case atStart => exact ⟨0, n, Nat.zero_le _, rfl, HI0⟩
              case round =>
                clear HI0
                obtain ⟨k, n, hk, rfl, HI⟩ := hrel
                have z8 : wr.cell? ⟨w.heap.size, 8, none⟩ = some (.slice Ae es.length ce) := by have := HI.out.2.2.2.cell 8; rw [HBX.out] at this; exact this
                have hn : n ≤ ds.length + ps.length + cs.length + es.length := by have := HI.out.1; simp at this; omega
                have hk0 : (0 : Int) ≤ (k : Int) := by omega
                by_cases hlt : k < es.length
                · obtain ⟨x, hx⟩ : ∃ x, es[k]? = some x := ⟨_, List.getElem?_eq_getElem hlt⟩
                  obtain ⟨b, off, hA, hb, hcell⟩ := row_at (LawFrame.RowsAt.below HL.out.2.2.2.1 HI.out.2.2.1) hx
                  subst hA
                  have y0 : wr.cell? ⟨b, off + k * 5, none⟩ = some (.string x.name) := hcell 0 _ rfl
                  have HX := Lib.hid hx
                  have HO := Lib.hid (one_str x.name)
                  have hk1 : (k : Int) < (es.length : Int) := by omega
                  have hwr := HI.out.2.2.1.size
                  clear hcell hx hb
                  go_wp2_with (at_builtin; refine Words.wpList_append_any _ rfl (.tmp 63) (.tmp 70) _ rfl w.heap.size 9 i0 _ 1 16 Try.underlying62 hi0 hz0 hz1 hz2 rfl (by omega) u3 n _ rfl (HI.out.2.1.alloc _) (wr.heap.size + 1) (some ⟨wr.heap.size, 0, none⟩) 1 1 (sC x.name) rfl (reads_str _ _ rfl x.name _) HO.out (by simp only [maxLen]; omega) (by omega) (by simp; omega) ?_; intro v' w2 ho hg hat; have HI2 := Lib.hid (HI.out.app ho hg (take_next (·.name) _ _ HX.out)); clear ho hg hat HI)
                  go_roundw
                  case rel => exact ⟨k + 1, n + 1, by omega, by go_num, HI2⟩
                  case measure => simp [intOf]; omega
                · have HI0 : Hid (NamesIs w w.heap.size bx ((((([] : List ByteArray) ++ ds.map (·.name)) ++ ps.map (·.name)) ++ cs.map (·.name)) ++ es.map (·.name) ++ ([].take 0).map (fun x : Dev => x.name)) n u3 wr) := Lib.hid (by have h := HI.out; rw [List.take_of_length_le (by omega)] at h; simpa using h)
                  have hk2 : ¬ (k : Int) < (es.length : Int) := by omega
                  clear HI
                  have HF : Hid (NamesIs w w.heap.size bx (Mat.names ⟨r, wt, bk, cy, key, ds, ps, cs, es⟩) n u3 wr) := Lib.hid (by have h := HI0.out; simpa [Mat.names] using h)
                  clear HI0
                  go_wp2_with fail
                  go_ret
                  exact ⟨_, rfl, LawFrame.RowsAt.of_own sC_len (by decide) HF.out.2.1, HF.out.2.2.1⟩
end Go.Proofs.Ytbpenoelmangkaa
