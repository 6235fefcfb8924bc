/-
  THE WALKS of the reader's methods watch and key.
-/
import Derived.Test.YtckbdnkonccmiaaDoorMatLv
namespace Go.Proofs.YtckbdnkonccmiaaDoor
open Go.RowKit
theorem RV.storeM {c : RC} {ls : List ByteArray} {wr un : Bool} {vl : Value} {w : World} (h : RV c ls wr un vl w) {m' : Mat} {wt' lk' wr' un' : Bool} (i : Nat) (u : Value) (hd : m'.devs = c.m.devs) (hp : m'.pts = c.m.pts) (hc : m'.css = c.m.css) (he : m'.efs = c.m.efs) (hs : (rdrCells c.m c.mb c.wt c.lk vl wr un c.vd c.vp c.vc c.ve).setIfInBounds i u = rdrCells m' c.mb wt' lk' vl wr' un' c.vd c.vp c.vc c.ve) : RV { c with m := m', wt := wt', lk := lk' } ls wr' un' vl (w.setCell ⟨c.g, i, none⟩ u) :=
  ⟨h.at_.store i u hd hp hc he hs, h.left, h.old.setCell (p := ⟨c.g, i, none⟩) h.at_.low u, h.fm.set h.at_.blk (by decide)⟩
def watchF (wt : Bool) (s : Row) : (Int × Int × Int × Int) × Row :=
  let a0 := numS (s.1, wt, s.2.2)
  let a1 := numS a0.2
  let a2 := numS a1.2
  let a3 := numS a2.2
  ((a0.1, a1.1, a2.1, a3.1), a3.2)
set_option maxHeartbeats 4000000 in
set_option maxRecDepth 100000 in
theorem watch_any (c : RC) (s : Row) (w : World) (h : RSS c s w) (hf : Fits s.1) :
    Calls Tryd.prog 53 #[.pointer (some ⟨c.g, 0, none⟩)] w fun e w' => e = .returned (.tuple #[]) ∧ RSS { c with m := { c.m with retries := (watchF c.wt s).1.1, wait := (watchF c.wt s).1.2.1, back := (watchF c.wt s).1.2.2.1, cycle := (watchF c.wt s).1.2.2.2 }, wt := true } (watchF c.wt s).2 w' := by
  unfold watchF
  simp only
  obtain ⟨vl, h⟩ := h
  have z10 : w.cell? ⟨c.g, 10, none⟩ = some (.bool c.wt) := h.cell 10
  have z13 : w.cell? ⟨c.g, 13, none⟩ = some (.bool s.2.1) := h.cell 13
  have f10 : w.frozen? ⟨c.g, 10, none⟩ = false := h.free 10
  have f13 : w.frozen? ⟨c.g, 13, none⟩ = false := h.free 13
  have h1 := h.storeM (m' := c.m) (wt' := c.wt) (lk' := c.lk) (wr' := c.wt) (un' := s.2.2) 13 (.bool c.wt) rfl rfl rfl rfl rfl
  have h2 := h1.storeM (m' := c.m) (wt' := true) (lk' := c.lk) (wr' := c.wt) (un' := s.2.2) 10 (.bool true) rfl rfl rfl rfl rfl
  have HS : Hid (RSS { c with wt := true } (s.1, c.wt, s.2.2) ((w.setCell ⟨c.g, 13, none⟩ (.bool c.wt)).setCell ⟨c.g, 10, none⟩ (.bool true))) := Lib.hid ⟨vl, h2⟩
  clear h h1 h2
  go_enter Tryd.func53, Tryd.ntmps53
  go_wp2_with fail
  clear z10 z13 f10 f13
  refine (num64_S { c with m := c.m, wt := true } (s.1, c.wt, s.2.2) _ HS.out hf).mono ?_
  rintro e w1 ⟨rfl, ⟨vl0, hr⟩, -⟩
  have hf0 := numS_fits (s := (s.1, c.wt, s.2.2)) hf
  obtain ⟨a0, HA0⟩ : ∃ a, Hid (a = numS (s.1, c.wt, s.2.2)) := ⟨_, Lib.hid rfl⟩
  rw [← HA0.out] at hr hf0 ⊢
  have HR0 := Lib.hid hr
  have c0 : w1.cell? ⟨c.g, 0, none⟩ = some _ := hr.cell 0
  have e0 : w1.frozen? ⟨c.g, 0, none⟩ = false := hr.free 0
  have HS : Hid (RSS { c with m := { c.m with retries := a0.1 }, wt := true } a0.2 (w1.setCell ⟨c.g, 0, none⟩ (.int .i64 a0.1))) := Lib.hid ⟨vl0, hr.storeM 0 _ rfl rfl rfl rfl rfl⟩
  clear hr
  go_wp2_with fail
  clear c0 e0
  refine (num64_S { c with m := { c.m with retries := a0.1 }, wt := true } a0.2 _ HS.out hf0).mono ?_
  rintro e w2 ⟨rfl, ⟨vl1, hr⟩, -⟩
  have hf1 := numS_fits (s := a0.2) hf0
  obtain ⟨a1, HA1⟩ : ∃ a, Hid (a = numS a0.2) := ⟨_, Lib.hid rfl⟩
  rw [← HA1.out] at hr hf1 ⊢
  have HR1 := Lib.hid hr
  have c1 : w2.cell? ⟨c.g, 1, none⟩ = some _ := hr.cell 1
  have e1 : w2.frozen? ⟨c.g, 1, none⟩ = false := hr.free 1
  have HS : Hid (RSS { c with m := { c.m with retries := a0.1, wait := a1.1 }, wt := true } a1.2 (w2.setCell ⟨c.g, 1, none⟩ (.int .i64 a1.1))) := Lib.hid ⟨vl1, hr.storeM 1 _ rfl rfl rfl rfl rfl⟩
  clear hr
  go_wp2_with fail
  clear c1 e1
  refine (num64_S { c with m := { c.m with retries := a0.1, wait := a1.1 }, wt := true } a1.2 _ HS.out hf1).mono ?_
  rintro e w3 ⟨rfl, ⟨vl2, hr⟩, -⟩
  have hf2 := numS_fits (s := a1.2) hf1
  obtain ⟨a2, HA2⟩ : ∃ a, Hid (a = numS a1.2) := ⟨_, Lib.hid rfl⟩
  rw [← HA2.out] at hr hf2 ⊢
  have HR2 := Lib.hid hr
  have c2 : w3.cell? ⟨c.g, 2, none⟩ = some _ := hr.cell 2
  have e2 : w3.frozen? ⟨c.g, 2, none⟩ = false := hr.free 2
  have HS : Hid (RSS { c with m := { c.m with retries := a0.1, wait := a1.1, back := a2.1 }, wt := true } a2.2 (w3.setCell ⟨c.g, 2, none⟩ (.int .i64 a2.1))) := Lib.hid ⟨vl2, hr.storeM 2 _ rfl rfl rfl rfl rfl⟩
  clear hr
  go_wp2_with fail
  clear c2 e2
  refine (num64_S { c with m := { c.m with retries := a0.1, wait := a1.1, back := a2.1 }, wt := true } a2.2 _ HS.out hf2).mono ?_
  rintro e w4 ⟨rfl, ⟨vl3, hr⟩, -⟩
  have hf3 := numS_fits (s := a2.2) hf2
  obtain ⟨a3, HA3⟩ : ∃ a, Hid (a = numS a2.2) := ⟨_, Lib.hid rfl⟩
  rw [← HA3.out] at hr hf3 ⊢
  have HR3 := Lib.hid hr
  have c3 : w4.cell? ⟨c.g, 3, none⟩ = some _ := hr.cell 3
  have e3 : w4.frozen? ⟨c.g, 3, none⟩ = false := hr.free 3
  have HS : Hid (RSS { c with m := { c.m with retries := a0.1, wait := a1.1, back := a2.1, cycle := a3.1 }, wt := true } a3.2 (w4.setCell ⟨c.g, 3, none⟩ (.int .i64 a3.1))) := Lib.hid ⟨vl3, hr.storeM 3 _ rfl rfl rfl rfl rfl⟩
  clear hr
  go_wp2_with fail
  clear c3 e3
  go_end0
  rw [← HA0.out, ← HA1.out, ← HA2.out, ← HA3.out]
  exact ⟨rfl, HS.out⟩
set_option maxHeartbeats 4000000 in
set_option maxRecDepth 100000 in
theorem key_any (c : RC) (s : Row) (w : World) (h : RSS c s w) (hf : Fits s.1) :
    Calls Tryd.prog 54 #[.pointer (some ⟨c.g, 0, none⟩)] w fun e w' => e = .returned (.tuple #[]) ∧ RSS { c with m := { c.m with key := (wordF s.1 c.lk).1 }, lk := true } ((wordF s.1 c.lk).2, c.lk, s.2.2) w' := by
  obtain ⟨vl, h⟩ := h
  have z11 : w.cell? ⟨c.g, 11, none⟩ = some (.bool c.lk) := h.cell 11
  have z13 : w.cell? ⟨c.g, 13, none⟩ = some (.bool s.2.1) := h.cell 13
  have f11 : w.frozen? ⟨c.g, 11, none⟩ = false := h.free 11
  have f13 : w.frozen? ⟨c.g, 13, none⟩ = false := h.free 13
  have h1 := h.storeM (m' := c.m) (wt' := c.wt) (lk' := c.lk) (wr' := c.lk) (un' := s.2.2) 13 (.bool c.lk) rfl rfl rfl rfl rfl
  have h2 := h1.storeM (m' := c.m) (wt' := c.wt) (lk' := true) (wr' := c.lk) (un' := s.2.2) 11 (.bool true) rfl rfl rfl rfl rfl
  have HS : Hid (RS { c with lk := true } s.1 c.lk s.2.2 ((w.setCell ⟨c.g, 13, none⟩ (.bool c.lk)).setCell ⟨c.g, 11, none⟩ (.bool true))) := Lib.hid ⟨vl, h2⟩
  clear h h1 h2
  go_enter Tryd.func54, Tryd.ntmps54
  go_wp2_with fail
  clear z11 z13 f11 f13
  refine (word_any { c with lk := true } s.1 c.lk s.2.2 _ HS.out (by have := hf.1; omega)).mono ?_
  rintro e w1 ⟨rfl, ⟨vl0, hr⟩, -⟩
  have HR := Lib.hid hr
  have c4 : w1.cell? ⟨c.g, 4, none⟩ = some _ := hr.cell 4
  have e4 : w1.frozen? ⟨c.g, 4, none⟩ = false := hr.free 4
  have HS : Hid (RSS { c with m := { c.m with key := (wordF s.1 c.lk).1 }, lk := true } ((wordF s.1 c.lk).2, c.lk, s.2.2) (w1.setCell ⟨c.g, 4, none⟩ (.string (wordF s.1 c.lk).1))) := Lib.hid ⟨vl0, hr.storeM 4 _ rfl rfl rfl rfl rfl⟩
  clear hr
  go_wp2_with fail
  go_end0
  exact ⟨rfl, HS.out⟩
end Go.Proofs.YtckbdnkonccmiaaDoor
