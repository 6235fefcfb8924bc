/-
  THE WALKS of lamp, name, said, rest: the reader's words.
-/
import Derived.Test.YtckbdnkonccmiaaDoorMatWord
namespace Go.Proofs.YtckbdnkonccmiaaDoor
open Go.RowKit
/-- a name, and whether it was there -/
def nameF (kn : Kn) (ls : List ByteArray) (wr un : Bool) : ByteArray × List ByteArray × Bool := ((wordF ls wr).1, (wordF ls wr).2, if (kn (wordF ls wr).1).isSome = true then true else un)
/-- the place of a name of a kind -/
def saidF (kn : Kn) (kind : Int) (ls : List ByteArray) (wr un : Bool) : Int × List ByteArray × Bool := match kn (wordF ls wr).1 with
  | some p => if p.1 = kind then (p.2, (wordF ls wr).2, un) else (0, (wordF ls wr).2, true)
  | none => (0, (wordF ls wr).2, true)
theorem place_zero (w : World) : (zeroValue 114).run Tryd.prog w = .ok placeZ w := by kernel_rfl
theorem RV.look_none {c : RC} {wr un : Bool} {ls : List ByteArray} {vl : Value} {w : World} (h : RV c ls wr un vl w) {s : ByteArray} (hk : c.kn s = none) (hml : s.size ≤ maxLen) :
    (Instr.lookup 62 (.map (some c.mb)) (.string s) true).run Tryd.prog w = .ok (.tuple #[.agg #[.int .i64 0, .int .i64 0], .bool false]) w := by
  have hlk := h.at_.mp.look Tryd.underlying62 (place_zero w) hml
  unfold knV at hlk
  rw [hk] at hlk
  exact hlk
theorem RV.look_some {c : RC} {wr un : Bool} {ls : List ByteArray} {vl : Value} {w : World} (h : RV c ls wr un vl w) {s : ByteArray} {p : Int × Int} (hk : c.kn s = some p) (hml : s.size ≤ maxLen) :
    (Instr.lookup 62 (.map (some c.mb)) (.string s) true).run Tryd.prog w = .ok (.tuple #[.agg #[.int .i64 p.1, .int .i64 p.2], .bool true]) w := by
  have hlk := h.at_.mp.look Tryd.underlying62 (place_zero w) hml
  unfold knV at hlk
  rw [hk] at hlk
  exact hlk
theorem wordF_size {ls : List ByteArray} {wr : Bool} (hz : ∀ s ∈ ls, s.size ≤ 1000000) : (wordF ls wr).1.size ≤ 1000000 := by
  unfold wordF
  split
  · exact Nat.zero_le _
  · split
    · exact Nat.zero_le _
    · exact hz _ (by simp)
theorem wordF_left {ls : List ByteArray} {wr : Bool} : ∀ s ∈ (wordF ls wr).2, s ∈ ls := by
  intro s hs
  unfold wordF at hs
  split at hs
  · exact hs
  · split at hs
    · cases hs
    · exact List.mem_cons_of_mem _ hs
theorem wordF_len {ls : List ByteArray} {wr : Bool} : (wordF ls wr).2.length ≤ ls.length := by
  unfold wordF
  split
  · exact Nat.le_refl _
  · split
    · exact Nat.le_refl _
    · simp
set_option maxHeartbeats 2000000 in
set_option maxRecDepth 100000 in
theorem name_any (c : RC) (ls : List ByteArray) (wr un : Bool) (w : World) (h : RS c ls wr un w) (hl : ls.length ≤ 1000000) (hz : ∀ s ∈ ls, s.size ≤ 1000000) :
    Calls Tryd.prog 71 #[.pointer (some ⟨c.g, 0, none⟩)] w fun e w' => e = .returned (.string (nameF c.kn ls wr un).1) ∧ RT c (nameF c.kn ls wr un).2.1 wr (nameF c.kn ls wr un).2.2 w w' := by
  have hw := word_any c ls wr un w h hl
  have hsz := wordF_size (wr := wr) hz
  unfold nameF
  generalize wordF ls wr = sl at *
  obtain ⟨s, ls'⟩ := sl
  simp only at hw hsz ⊢
  have HW := Lib.hid hw
  clear hw h
  go_enter Tryd.func71, Tryd.ntmps71
  go_wp2_with fail
  refine HW.out.mono ?_
  rintro e w1 ⟨rfl, h1, hgr⟩
  obtain ⟨vl, h1⟩ := h1
  have HGR := Lib.hid hgr
  clear hgr
  have z9 : w1.cell? ⟨c.g, 9, none⟩ = some (.map (some c.mb)) := h1.cell 9
  have hlk := h1.at_.mp.look Tryd.underlying62 (place_zero w1) (k := s) (by simp only [maxLen]; omega)
  have HR := Lib.hid h1
  clear h1 HW
  unfold knV at hlk
  cases hk : c.kn s with
  | none =>
    rw [hk] at hlk
    simp only [Option.map_none, Option.getD_none, Option.isSome_none, placeZ] at hlk
    have hb : Below w1.heap.size w1 (w1.alloc (.cells #[.int .i64 0, .int .i64 0] 114)) := (Below.refl _ _).alloc (Nat.le_refl _) _
    have HR2 := Lib.hid (HR.out.below hb)
    clear hb
    go_wp2_with fail
    all_goals go_ret
    all_goals exact ⟨rfl, ⟨_, HR2.out⟩, grown_trans HGR.out (World.grownBy_alloc _ _ _)⟩
  | some p =>
    rw [hk] at hlk
    simp only [Option.map_some, Option.getD_some, Option.isSome_some, placeV] at hlk
    have hb : Below w1.heap.size w1 (w1.alloc (.cells #[.int .i64 p.1, .int .i64 p.2] 114)) := (Below.refl _ _).alloc (Nat.le_refl _) _
    have HR2 := Lib.hid (HR.out.below hb)
    have c14 : (w1.alloc (.cells #[.int .i64 p.1, .int .i64 p.2] 114)).cell? ⟨c.g, 14, none⟩ = some (.bool un) := HR2.out.cell 14
    have f14 : (w1.alloc (.cells #[.int .i64 p.1, .int .i64 p.2] 114)).frozen? ⟨c.g, 14, none⟩ = false := HR2.out.free 14
    have d14 : w1.cell? ⟨c.g, 14, none⟩ = some (.bool un) := HR.out.cell 14
    have e14 : w1.frozen? ⟨c.g, 14, none⟩ = false := HR.out.free 14
    clear hb
    go_wp2_with fail
    all_goals go_ret
    all_goals exact ⟨rfl, ⟨_, HR2.out.store 14 _ rfl HR2.out.left⟩, grown_trans (grown_trans HGR.out (World.grownBy_alloc _ _ _)) (grown_set _ _ _ _)⟩
theorem grown_new {w w1 : World} {g pl i : Nat} {u : Value} (h : w.grownBy w1 (some g)) (hp : w.heap.size ≤ pl) : w.grownBy (w1.setCell ⟨pl, i, none⟩ u) (some g) :=
  ⟨h.os, h.tape, h.output, by have := h.size; simp [World.setCell]; exact this, fun k hk hr => (heap_setCell_other _ _ k _ (by simp only; omega)).trans (h.block k hk hr)⟩
theorem RV.other {c : RC} {pl i : Nat} {wr un : Bool} {ls : List ByteArray} {vl u : Value} {cs : Array Value} {w : World} (h : RV c ls wr un vl w) (hp : Words.Blk w pl 114 cs) (hW : c.W.heap.size ≤ pl) : RV c ls wr un vl (w.setCell ⟨pl, i, none⟩ u) := by
  have hg := grown_set w pl i u
  have k : ∀ {base : Nat} {e : TypeId} {size n : Nat} {v : Value} {xs : List Value}, w.ownsRow base e size v n xs → e ≠ 114 → (w.setCell ⟨pl, i, none⟩ u).ownsRow base e size v n xs := fun ho hne => ho.kept hg (.inr (Words.own_blk_ne ho hp hne))
  have ha := h.at_
  refine ⟨⟨ha.blk.grown hg (fun e => Words.Blk.ne_ ha.blk hp (by decide) (Option.some.inj e)), ha.low, ha.lowm, k ha.ds (by decide), k ha.ps (by decide), k ha.cs (by decide), k ha.es (by decide), fun c hc => ?_, fun c hc => ?_, ha.mp.grown hg (fun e => map_blk_ne ha.mp hp (Option.some.inj e))⟩, h.left, h.old.setCell (p := ⟨pl, i, none⟩) hW u, h.fm.set hp (by decide)⟩
  · obtain ⟨B', hB⟩ := ha.ci c hc; exact ⟨B', k hB (by decide)⟩
  · obtain ⟨B', hB⟩ := ha.ei c hc; exact ⟨B', k hB (by decide)⟩
/-- what said finds: its place in memory, its state -/
def FoundAt (c : RC) (ls : List ByteArray) (wr un : Bool) (k0 k1 : Int) (w : World) (pl : Nat) (wx : World) : Prop :=
  (∃ vl, RV c ls wr un vl wx) ∧ Words.Blk wx pl 114 #[.int .i64 k0, .int .i64 k1] ∧ c.W.heap.size ≤ pl ∧ w.grownBy wx (some c.g)
theorem found_new {c : RC} {wr un : Bool} {ls : List ByteArray} {vl : Value} {k0 k1 : Int} {w w1 : World} (h : RV c ls wr un vl w1) (hg : w.grownBy w1 (some c.g)) : FoundAt c ls wr un k0 k1 w w1.heap.size (w1.alloc (.cells #[.int .i64 k0, .int .i64 k1] 114)) :=
  ⟨⟨_, h.alloc _⟩, Words.Blk.new _ _ _, h.old.size, grown_trans hg (World.grownBy_alloc _ _ _)⟩
theorem found_old {c : RC} {pl : Nat} {wr un : Bool} {ls : List ByteArray} {vl : Value} {a0 a1 k0 k1 : Int} {w w1 : World} (h : RV c ls wr un vl w1) (hp : Words.Blk w1 pl 114 #[.int .i64 a0, .int .i64 a1]) (hpl : w.heap.size ≤ pl) (hW : c.W.heap.size ≤ pl) (hg : w.grownBy w1 (some c.g)) :
    FoundAt c ls wr un k0 k1 w pl ((w1.setCell ⟨pl, 0, none⟩ (.int .i64 k0)).setCell ⟨pl, 1, none⟩ (.int .i64 k1)) := by
  have h1 := hp.set_ 0 (.int .i64 k0)
  have h2 := h1.set_ 1 (.int .i64 k1)
  exact ⟨⟨_, (h.other hp hW).other h1 hW⟩, h2, hW, grown_new (grown_new hg hpl) hpl⟩
set_option maxHeartbeats 4000000 in
set_option maxRecDepth 100000 in
theorem said_any (c : RC) (ls : List ByteArray) (wr un : Bool) (w : World) (kind : Int) (h : RS c ls wr un w) (hl : ls.length ≤ 1000000) (hz : ∀ s ∈ ls, s.size ≤ 1000000) :
    Calls Tryd.prog 73 #[.pointer (some ⟨c.g, 0, none⟩), .int .i64 kind] w fun e w' => e = .returned (.int .i64 (saidF c.kn kind ls wr un).1) ∧ RT c (saidF c.kn kind ls wr un).2.1 wr (saidF c.kn kind ls wr un).2.2 w w' := by
  have hgl : c.g < w.heap.size := by obtain ⟨vl, h1⟩ := h; exact h1.at_.blk.lt
  have HWL : Hid (c.W.heap.size ≤ w.heap.size) := Lib.hid h.old.size
  have hw : ∀ w0, w.grownBy w0 none → _ := fun w0 h0 => word_any c ls wr un w0 (h.below (below_grown h0)) hl
  have hsz := wordF_size (wr := wr) hz
  have z9 : w.cell? ⟨c.g, 9, none⟩ = some (.map (some c.mb)) := by obtain ⟨vl, h1⟩ := h; exact h1.cell 9
  have z9a : ∀ ob, (w.alloc ob).cell? ⟨c.g, 9, none⟩ = some (.map (some c.mb)) := fun ob => by obtain ⟨vl, h1⟩ := h; exact (h1.below ((Below.refl _ _).alloc (Nat.le_refl _) ob)).cell 9
  unfold saidF
  generalize wordF ls wr = sl at *
  obtain ⟨s, ls'⟩ := sl
  simp only at hw hsz ⊢
  have HW := Lib.hid hw
  clear hw h
  have hml : s.size ≤ maxLen := by simp only [maxLen]; omega
  cases hk : c.kn s with
  | none =>
    go_enter Tryd.func73, Tryd.ntmps73
    go_upto_region 1 with fail
    go_cut [5, 6] (fun p th wx => ∃ pl, p = .pointer (some ⟨pl, 0, none⟩) ∧ th = .bool false ∧ Hid (FoundAt c ls' wr un 0 0 w pl wx))
    case first =>
      go_region_with (first
        | (go_at_call 70; refine (HW.out (w.alloc (.cells #[.int .i64 0, .int .i64 0] 114)).drew (grown_trans (World.grownBy_alloc _ _ _) (grown_drewN _ 1))).mono ?_; rintro e w1 ⟨rfl, h1, hgr⟩; obtain ⟨vl, h1⟩ := h1; have z9 : w1.cell? ⟨c.g, 9, none⟩ = some (.map (some c.mb)) := h1.cell 9; have z9a : ∀ ob, (w1.alloc ob).cell? ⟨c.g, 9, none⟩ = some (.map (some c.mb)) := fun ob => (h1.below ((Below.refl _ _).alloc (Nat.le_refl _) ob)).cell 9; have hlk := h1.look_none hk hml; have hlka := fun ob => (h1.alloc ob).look_none hk hml; have hpl : Words.Blk w1 w.heap.size 114 #[.int .i64 0, .int .i64 0] := Words.Blk.grown (w := (w.alloc (.cells #[.int .i64 0, .int .i64 0] 114)).drew) (Words.Blk.new w _ _) hgr (fun e => by injection e with e; omega); have p0 := hpl.cell 0; have p1 := hpl.cell 1; have q0 := hpl.frozen 0; have q1 := hpl.frozen 1; simp only [List.getElem?_toArray, List.getElem?_cons_zero, List.getElem?_cons_succ] at p0 p1; have HR := Lib.hid h1; have HP := Lib.hid hpl; have HGR := Lib.hid (grown_trans (grown_trans (World.grownBy_alloc w (.cells #[.int .i64 0, .int .i64 0] 114) (some c.g)) (grown_any (grown_drewN _ 1))) hgr); clear h1 hgr hpl)
        | (go_at_call 70; refine (HW.out w.drew (grown_drewN _ 1)).mono ?_; rintro e w1 ⟨rfl, h1, hgr⟩; obtain ⟨vl, h1⟩ := h1; have z9 : w1.cell? ⟨c.g, 9, none⟩ = some (.map (some c.mb)) := h1.cell 9; have z9a : ∀ ob, (w1.alloc ob).cell? ⟨c.g, 9, none⟩ = some (.map (some c.mb)) := fun ob => (h1.below ((Below.refl _ _).alloc (Nat.le_refl _) ob)).cell 9; have hlk := h1.look_none hk hml; have hlka := fun ob => (h1.alloc ob).look_none hk hml; have HR := Lib.hid h1; have HGR := Lib.hid (grown_trans (grown_any (grown_drewN w 1)) hgr); clear h1 hgr))
      all_goals go_wp2_with fail
      all_goals go_meet
      all_goals first
        | exact ⟨_, rfl, rfl, Lib.hid (found_new HR.out HGR.out)⟩
        | exact ⟨_, rfl, rfl, Lib.hid (found_old HR.out HP.out (Nat.le_refl _) HWL.out HGR.out)⟩
    case rest =>
      clear z9 z9a HW
      obtain ⟨pl, rfl, rfl, HFA⟩ := hcut
      obtain ⟨⟨vl, h1⟩, hpl, hpW, hgr⟩ := HFA.out
      have p0 := hpl.cell 0
      have p1 := hpl.cell 1
      simp only [List.getElem?_toArray, List.getElem?_cons_zero, List.getElem?_cons_succ] at p0 p1
      have f14 := h1.free 14
      have c14 := h1.cell 14
      have HR := Lib.hid h1
      have HGR := Lib.hid hgr
      clear h1 hpl hpW hgr HFA
      go_wp2_with fail
      all_goals go_ret
      all_goals exact ⟨rfl, ⟨_, HR.out.store 14 _ rfl HR.out.left⟩, grown_trans HGR.out (grown_set _ _ _ _)⟩
  | some p =>
    obtain ⟨p0, p1⟩ := p
    go_enter Tryd.func73, Tryd.ntmps73
    go_upto_region 1 with fail
    go_cut [5, 6] (fun p th wx => ∃ pl, p = .pointer (some ⟨pl, 0, none⟩) ∧ th = .bool true ∧ Hid (FoundAt c ls' wr un p0 p1 w pl wx))
    case first =>
      go_region_with (first
        | (go_at_call 70; refine (HW.out (w.alloc (.cells #[.int .i64 0, .int .i64 0] 114)).drew (grown_trans (World.grownBy_alloc _ _ _) (grown_drewN _ 1))).mono ?_; rintro e w1 ⟨rfl, h1, hgr⟩; obtain ⟨vl, h1⟩ := h1; have z9 : w1.cell? ⟨c.g, 9, none⟩ = some (.map (some c.mb)) := h1.cell 9; have z9a : ∀ ob, (w1.alloc ob).cell? ⟨c.g, 9, none⟩ = some (.map (some c.mb)) := fun ob => (h1.below ((Below.refl _ _).alloc (Nat.le_refl _) ob)).cell 9; have hlk := h1.look_some hk hml; have hlka := fun ob => (h1.alloc ob).look_some hk hml; have hpl : Words.Blk w1 w.heap.size 114 #[.int .i64 0, .int .i64 0] := Words.Blk.grown (w := (w.alloc (.cells #[.int .i64 0, .int .i64 0] 114)).drew) (Words.Blk.new w _ _) hgr (fun e => by injection e with e; omega); have pz0 := hpl.cell 0; have pz1 := hpl.cell 1; have q0 := hpl.frozen 0; have q1 := hpl.frozen 1; simp only [List.getElem?_toArray, List.getElem?_cons_zero, List.getElem?_cons_succ] at pz0 pz1; have HR := Lib.hid h1; have HP := Lib.hid hpl; have HGR := Lib.hid (grown_trans (grown_trans (World.grownBy_alloc w (.cells #[.int .i64 0, .int .i64 0] 114) (some c.g)) (grown_any (grown_drewN _ 1))) hgr); clear h1 hgr hpl)
        | (go_at_call 70; refine (HW.out w.drew (grown_drewN _ 1)).mono ?_; rintro e w1 ⟨rfl, h1, hgr⟩; obtain ⟨vl, h1⟩ := h1; have z9 : w1.cell? ⟨c.g, 9, none⟩ = some (.map (some c.mb)) := h1.cell 9; have z9a : ∀ ob, (w1.alloc ob).cell? ⟨c.g, 9, none⟩ = some (.map (some c.mb)) := fun ob => (h1.below ((Below.refl _ _).alloc (Nat.le_refl _) ob)).cell 9; have hlk := h1.look_some hk hml; have hlka := fun ob => (h1.alloc ob).look_some hk hml; have HR := Lib.hid h1; have HGR := Lib.hid (grown_trans (grown_any (grown_drewN w 1)) hgr); clear h1 hgr))
      all_goals go_wp2_with fail
      all_goals go_meet
      all_goals first
        | exact ⟨_, rfl, rfl, Lib.hid (found_new HR.out HGR.out)⟩
        | exact ⟨_, rfl, rfl, Lib.hid (found_old HR.out HP.out (Nat.le_refl _) HWL.out HGR.out)⟩
    case rest =>
      clear z9 z9a HW
      obtain ⟨pl, rfl, rfl, HFA⟩ := hcut
      obtain ⟨⟨vl, h1⟩, hpl, hpW, hgr⟩ := HFA.out
      have pz0 := hpl.cell 0
      have pz1 := hpl.cell 1
      simp only [List.getElem?_toArray, List.getElem?_cons_zero, List.getElem?_cons_succ] at pz0 pz1
      have f14 := h1.free 14
      have c14 := h1.cell 14
      have HR := Lib.hid h1
      have HGR := Lib.hid hgr
      clear h1 hpl hpW hgr HFA
      by_cases hkk : p0 = kind
      · have e1 : (p0 == kind) = true := by simp [hkk]
        have e2 : (p0 != kind) = false := by rw [bne, e1]; rfl
        have HK := Lib.hid hkk
        clear hkk
        go_wp2_with fail
        all_goals go_ret
        all_goals simp only
        all_goals exact ⟨rfl, ⟨_, HR.out⟩, HGR.out⟩
      · have e1 : (p0 == kind) = false := by rw [beq_eq_false_iff_ne]; exact hkk
        have e2 : (p0 != kind) = true := by rw [bne, e1]; rfl
        have HK := Lib.hid hkk
        clear hkk
        go_wp2_with fail
        all_goals go_ret
        all_goals simp only
        all_goals exact ⟨rfl, ⟨_, HR.out.store 14 _ rfl HR.out.left⟩, grown_trans HGR.out (grown_set _ _ _ _)⟩
end Go.Proofs.YtckbdnkonccmiaaDoor
