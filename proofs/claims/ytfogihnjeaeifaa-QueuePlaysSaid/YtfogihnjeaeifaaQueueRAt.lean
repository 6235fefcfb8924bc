/-
  The document's queue: Put, Take, Drain, Many by the same plain functions.
-/
import Derived.Test.YtfogihnjeaeifaaQueueRows
import Derived.BigQuiet
import Derived.Deep.QuietTactic
import Derived.Deep.DeepCutAuto
namespace Go.Proofs.Ytfogihnjeaeifaa
open Go.Conc Go.RowKit Go.ChangeShapes Go.WideShapes
/-- the document's queue lies at g: its room, its two rows -/
def RV (B g n : Nat) (s : List Int × List Int) (vu vo : Value) (w : World) : Prop :=
  Words.Blk w g 50 #[.int .i64 n, vu, vo] ∧ w.ownsRow B 3 1 vu s.1.length (s.1.map nV) ∧ w.ownsRow B 3 1 vo s.2.length (s.2.map nV) ∧ (vu.ownBlock = none ∨ vu.ownBlock ≠ vo.ownBlock) ∧ B ≤ g
def RQ (B g n : Nat) (s : List Int × List Int) (w : World) : Prop := ∃ vu vo, RV B g n s vu vo w
theorem RV.cells {B g n : Nat} {s : List Int × List Int} {vu vo : Value} {w w' : World} (h : RV B g n s vu vo w) (hc : Cells w w') : RV B g n s vu vo w' :=
  ⟨(hc g _ _ _ h.1).trans h.1, own_cells h.2.1 hc, own_cells h.2.2.1 hc, h.2.2.2⟩
theorem RQ.cells {B g n : Nat} {s : List Int × List Int} {w w' : World} (h : RQ B g n s w) (hc : Cells w w') : RQ B g n s w' := by
  obtain ⟨vu, vo, h⟩ := h
  exact ⟨vu, vo, h.cells hc⟩
theorem grown_set (W : World) (h j : Nat) (u : Value) : W.grownBy (W.setCell ⟨h, j, none⟩ u) (some h) :=
  ⟨rfl, rfl, rfl, by simp [World.setCell], fun i _ hi => by simp [World.setCell, Array.getElem?_modify]; intro e; exact absurd (by rw [e]) hi⟩
theorem own_ne_blk {w : World} {base size n g : Nat} {v : Value} {xs : List Value} {cs : Array Value} (h : w.ownsRow base 3 size v n xs) (hg : Words.Blk w g 50 cs) : v.ownBlock = none ∨ v.ownBlock ≠ some g := .inr (Words.own_blk_ne h hg (by decide))
/-- one more behind a row: the append, then the store of the field -/
theorem RV.app_u {B g n : Nat} {s : List Int × List Int} {x : Int} {vu vo v' : Value} {w w2 : World} {ob : Obj} (h : RV B g n s vu vo w) (hB : B ≤ w.heap.size)
    (ho : w2.ownsRow B 3 1 v' (s.1.length + 1) (s.1.map nV ++ [nV x])) (hg : (w.alloc ob).grownBy w2 vu.ownBlock) (hat : v'.ownBlock = vu.ownBlock ∨ v'.ownBlock = some (w.alloc ob).heap.size) :
    (Words.Blk w2 g 50 #[.int .i64 n, vu, vo] ∧ RV B g n (s.1 ++ [x], s.2) v' vo (w2.setCell ⟨g, 1, none⟩ v')) ∧ Below B w (w2.setCell ⟨g, 1, none⟩ v') ∧ Others 50 w (w2.setCell ⟨g, 1, none⟩ v') := by
  have hb : Words.Blk w2 g 50 #[.int .i64 n, vu, vo] := (h.1.alloc ob).grown hg (by
    rcases own_ne_blk (h.2.1.alloc ob) (h.1.alloc ob) with e | e
    · rw [e]; simp
    · exact Ne.symm e)
  have k1 : (w2.setCell ⟨g, 1, none⟩ v').ownsRow B 3 1 v' (s.1 ++ [x]).length ((s.1 ++ [x]).map nV) := by
    rw [List.length_append, List.map_append]
    exact ho.kept (grown_set w2 g 1 v') (own_ne_blk ho hb)
  have k2 := (((h.2.2.1.alloc ob).kept hg (own_flip h.2.2.2.1)).kept (grown_set w2 g 1 v') (own_ne_blk ((h.2.2.1.alloc ob).kept hg (own_flip h.2.2.2.1)) hb))
  refine ⟨⟨hb, hb.set_ 1 v', k1, k2, (own_apart (h.2.2.1.alloc ob) h.2.2.2.1 hat), h.2.2.2.2⟩, ?_, ?_⟩
  · exact ((((Below.refl B w).alloc hB ob).grown hg (by simp; omega) (fun k hk => ((h.2.1.alloc ob).lt k hk).1))).setCell h.2.2.2.2 _
  · exact ((Others.alloc 50 w ob).trans (Others.grown (h.2.1.alloc ob) hg)).trans (Others.set_ hb 1 v')
/-- a row made anew, then the store of the field -/
theorem RV.new_u {B g n : Nat} {s : List Int × List Int} {ys : List Int} {vu vo v' : Value} {w w2 : World} {ob : Obj} (h : RV B g n s vu vo w) (hB : B ≤ w.heap.size)
    (hn : (w.alloc ob).ownsRow B 3 1 (.slice (some ⟨w.heap.size, 0, none⟩) 0 0) 0 [])
    (ho : w2.ownsRow B 3 1 v' ys.length (ys.map nV)) (hg : (w.alloc ob).grownBy w2 (some w.heap.size)) (hat : v'.ownBlock = some w.heap.size ∨ v'.ownBlock = some (w.alloc ob).heap.size) :
    (Words.Blk w2 g 50 #[.int .i64 n, vu, vo] ∧ RV B g n (ys, s.2) v' vo (w2.setCell ⟨g, 1, none⟩ v')) ∧ Below B w (w2.setCell ⟨g, 1, none⟩ v') ∧ Others 50 w (w2.setCell ⟨g, 1, none⟩ v') := by
  have hgl : g < w.heap.size := Words.Blk.lt h.1
  have hb : Words.Blk w2 g 50 #[.int .i64 n, vu, vo] := (h.1.alloc ob).grown hg (by simp; omega)
  have k1 : (w2.setCell ⟨g, 1, none⟩ v').ownsRow B 3 1 v' ys.length (ys.map nV) := ho.kept (grown_set w2 g 1 v') (own_ne_blk ho hb)
  have k0 := (h.2.2.1.alloc ob).kept hg (.inr (own_ne_new h.2.2.1))
  have k2 := k0.kept (grown_set w2 g 1 v') (own_ne_blk k0 hb)
  have hap : v'.ownBlock = none ∨ v'.ownBlock ≠ vo.ownBlock := by
    right
    rcases hat with e | e
    · rw [e]; exact Ne.symm (own_ne_new h.2.2.1)
    · rw [e]; exact Ne.symm (own_ne_new (h.2.2.1.alloc ob))
  refine ⟨⟨hb, hb.set_ 1 v', k1, k2, hap, h.2.2.2.2⟩, ?_, ?_⟩
  · exact ((((Below.refl B w).alloc hB ob).grown hg (by simp; omega) (fun k hk => by injection hk with hk; omega))).setCell h.2.2.2.2 _
  · exact ((Others.alloc 50 w ob).trans (Others.grown hn hg)).trans (Others.set_ hb 1 v')
/-- one more behind a row: the append, then the store of the field -/
theorem RV.app_o {B g n : Nat} {s : List Int × List Int} {x : Int} {vu vo v' : Value} {w w2 : World} {ob : Obj} (h : RV B g n s vu vo w) (hB : B ≤ w.heap.size)
    (ho : w2.ownsRow B 3 1 v' (s.2.length + 1) (s.2.map nV ++ [nV x])) (hg : (w.alloc ob).grownBy w2 vo.ownBlock) (hat : v'.ownBlock = vo.ownBlock ∨ v'.ownBlock = some (w.alloc ob).heap.size) :
    (Words.Blk w2 g 50 #[.int .i64 n, vu, vo] ∧ RV B g n (s.1, s.2 ++ [x]) vu v' (w2.setCell ⟨g, 2, none⟩ v')) ∧ Below B w (w2.setCell ⟨g, 2, none⟩ v') ∧ Others 50 w (w2.setCell ⟨g, 2, none⟩ v') := by
  have hb : Words.Blk w2 g 50 #[.int .i64 n, vu, vo] := (h.1.alloc ob).grown hg (by
    rcases own_ne_blk (h.2.2.1.alloc ob) (h.1.alloc ob) with e | e
    · rw [e]; simp
    · exact Ne.symm e)
  have k1 : (w2.setCell ⟨g, 2, none⟩ v').ownsRow B 3 1 v' (s.2 ++ [x]).length ((s.2 ++ [x]).map nV) := by
    rw [List.length_append, List.map_append]
    exact ho.kept (grown_set w2 g 2 v') (own_ne_blk ho hb)
  have k2 := (((h.2.1.alloc ob).kept hg h.2.2.2.1).kept (grown_set w2 g 2 v') (own_ne_blk ((h.2.1.alloc ob).kept hg h.2.2.2.1) hb))
  refine ⟨⟨hb, hb.set_ 2 v', k2, k1, (own_flip (own_apart (h.2.1.alloc ob) (own_flip h.2.2.2.1) hat)), h.2.2.2.2⟩, ?_, ?_⟩
  · exact ((((Below.refl B w).alloc hB ob).grown hg (by simp; omega) (fun k hk => ((h.2.2.1.alloc ob).lt k hk).1))).setCell h.2.2.2.2 _
  · exact ((Others.alloc 50 w ob).trans (Others.grown (h.2.2.1.alloc ob) hg)).trans (Others.set_ hb 2 v')
/-- a row made anew, then the store of the field -/
theorem RV.new_o {B g n : Nat} {s : List Int × List Int} {ys : List Int} {vu vo v' : Value} {w w2 : World} {ob : Obj} (h : RV B g n s vu vo w) (hB : B ≤ w.heap.size)
    (hn : (w.alloc ob).ownsRow B 3 1 (.slice (some ⟨w.heap.size, 0, none⟩) 0 0) 0 [])
    (ho : w2.ownsRow B 3 1 v' ys.length (ys.map nV)) (hg : (w.alloc ob).grownBy w2 (some w.heap.size)) (hat : v'.ownBlock = some w.heap.size ∨ v'.ownBlock = some (w.alloc ob).heap.size) :
    (Words.Blk w2 g 50 #[.int .i64 n, vu, vo] ∧ RV B g n (s.1, ys) vu v' (w2.setCell ⟨g, 2, none⟩ v')) ∧ Below B w (w2.setCell ⟨g, 2, none⟩ v') ∧ Others 50 w (w2.setCell ⟨g, 2, none⟩ v') := by
  have hgl : g < w.heap.size := Words.Blk.lt h.1
  have hb : Words.Blk w2 g 50 #[.int .i64 n, vu, vo] := (h.1.alloc ob).grown hg (by simp; omega)
  have k1 : (w2.setCell ⟨g, 2, none⟩ v').ownsRow B 3 1 v' ys.length (ys.map nV) := ho.kept (grown_set w2 g 2 v') (own_ne_blk ho hb)
  have k0 := (h.2.1.alloc ob).kept hg (.inr (own_ne_new h.2.1))
  have k2 := k0.kept (grown_set w2 g 2 v') (own_ne_blk k0 hb)
  have hap : v'.ownBlock = none ∨ v'.ownBlock ≠ vu.ownBlock := by
    right
    rcases hat with e | e
    · rw [e]; exact Ne.symm (own_ne_new h.2.1)
    · rw [e]; exact Ne.symm (own_ne_new (h.2.1.alloc ob))
  refine ⟨⟨hb, hb.set_ 2 v', k2, k1, (own_flip hap), h.2.2.2.2⟩, ?_, ?_⟩
  · exact ((((Below.refl B w).alloc hB ob).grown hg (by simp; omega) (fun k hk => by injection hk with hk; omega))).setCell h.2.2.2.2 _
  · exact ((Others.alloc 50 w ob).trans (Others.grown hn hg)).trans (Others.set_ hb 2 v')
set_option maxRecDepth 100000 in
theorem rput_u (B g n : Nat) (s : List Int × List Int) (x : Int) (w : World) (h : RQ B g n s w) (hB : B ≤ w.heap.size) (hn : n ≤ 64) :
    Calls Try.prog 16 #[.pointer (some ⟨g, 0, none⟩), .bool true, .int .i64 x] w fun e w' => e = .returned (.bool (qput n true x s).1) ∧ RQ B g n (qput n true x s).2 w' ∧ Below B w w' ∧ Others 50 w w' := by
  obtain ⟨i0, hi0, hz0, hz1, hz2⟩ := info_parts int_info
  obtain ⟨vu, vo, h⟩ := h
  obtain ⟨Au, cu, eu⟩ := own_form h.2.1
  obtain ⟨Ao, co, eo⟩ := own_form h.2.2.1
  subst eu eo
  have c0 : w.cell? ⟨g, 0, none⟩ = some (.int .i64 n) := h.1.cell 0
  have c1 : w.cell? ⟨g, 1, none⟩ = some (.slice Au s.1.length cu) := h.1.cell 1
  have c2 : w.cell? ⟨g, 2, none⟩ = some (.slice Ao s.2.length co) := h.1.cell 2
  have hcu := own_cap h.2.1
  have hco := own_cap h.2.2.1
  have HR := Lib.hid h
  clear h
  have HX := Lib.hid (one_nums [x])
  by_cases hc : s.1.length < n
  · have hlt : (s.1.length : Int) < (n : Int) := by omega
    have hq : qput n true x s = (true, s.1 ++ [x], s.2) := by simp [qput, hc]
    rw [hq]
    clear hq
    go_enter Try.func16, Try.ntmps16
    go_upto_region 2 with fail
    go_quiet (fail)
    have hR : RV B g n s (.slice Au s.1.length cu) (.slice Ao s.2.length co) (w.drewN nq) := HR.out
    have c1' : (w.drewN nq).cell? ⟨g, 1, none⟩ = some (.slice Au s.1.length cu) := c1
    have HD : Hid (Below B w (w.drewN nq) ∧ Others 50 w (w.drewN nq) ∧ B ≤ (w.drewN nq).heap.size) := ⟨⟨rfl, rfl, rfl, Nat.le_refl _, fun _ _ => rfl⟩, fun _ _ h _ _ => h, hB⟩
    have HR1 := Lib.hid hR
    clear hR HR c0 c1 c2
    generalize w.drewN nq = wa at *
    go_wp2_with (at_builtin; refine Words.wpList_append_any _ rfl (.tmp 22) (.tmp 24) _ rfl B 3 i0 _ 1 8 Try.underlying37 hi0 hz0 hz1 hz2 rfl (by omega) (.slice Au s.1.length cu) s.1.length (s.1.map nV) rfl (HR1.out.2.1.alloc _) (wa.heap.size + 1) (some ⟨wa.heap.size, 0, none⟩) 1 1 [nV x] rfl (reads_one _ _ rfl x) HX.out (by simp only [maxLen]; omega) (by omega) (by have := HD.out.2.2; simp; omega) ?_; intro v' w2 ho hg hat; obtain ⟨A', c', rfl⟩ := own_form ho; have HE := Lib.hid (HR1.out.app_u HD.out.2.2 ho hg hat); clear ho hg hat; have c1' := HE.out.1.1.cell 1; have f1 := HE.out.1.1.frozen 1; have c1'' : w2.cell? ⟨g, 1, none⟩ = some (.slice Au s.1.length cu) := c1')
    go_ret
    exact ⟨rfl, ⟨_, _, HE.out.1.2⟩, HD.out.1.trans HE.out.2.1, HD.out.2.1.trans HE.out.2.2⟩
  · have hle : (n : Int) ≤ (s.1.length : Int) := by omega
    have hq : qput n true x s = (false, s) := by simp [qput, hc]
    rw [hq]
    clear hq
    go_enter Try.func16, Try.ntmps16
    go_upto_region 2 with fail
    go_quiet (fail)
    go_wp2_with fail
    go_ret
    exact ⟨rfl, ⟨_, _, HR.out⟩, ⟨rfl, rfl, rfl, Nat.le_refl _, fun _ _ => rfl⟩, fun _ _ h _ _ => h⟩
set_option maxRecDepth 100000 in
theorem rput_o (B g n : Nat) (s : List Int × List Int) (x : Int) (w : World) (h : RQ B g n s w) (hB : B ≤ w.heap.size) (hn : n ≤ 64) :
    Calls Try.prog 16 #[.pointer (some ⟨g, 0, none⟩), .bool false, .int .i64 x] w fun e w' => e = .returned (.bool (qput n false x s).1) ∧ RQ B g n (qput n false x s).2 w' ∧ Below B w w' ∧ Others 50 w w' := by
  obtain ⟨i0, hi0, hz0, hz1, hz2⟩ := info_parts int_info
  obtain ⟨vu, vo, h⟩ := h
  obtain ⟨Au, cu, eu⟩ := own_form h.2.1
  obtain ⟨Ao, co, eo⟩ := own_form h.2.2.1
  subst eu eo
  have c0 : w.cell? ⟨g, 0, none⟩ = some (.int .i64 n) := h.1.cell 0
  have c1 : w.cell? ⟨g, 1, none⟩ = some (.slice Au s.1.length cu) := h.1.cell 1
  have c2 : w.cell? ⟨g, 2, none⟩ = some (.slice Ao s.2.length co) := h.1.cell 2
  have hcu := own_cap h.2.1
  have hco := own_cap h.2.2.1
  have HR := Lib.hid h
  clear h
  have HX := Lib.hid (one_nums [x])
  by_cases hc : s.2.length < n
  · have hlt : (s.2.length : Int) < (n : Int) := by omega
    have hq : qput n false x s = (true, s.1, s.2 ++ [x]) := by simp [qput, hc]
    rw [hq]
    clear hq
    go_enter Try.func16, Try.ntmps16
    go_upto_region 6 with fail
    go_quiet (fail)
    have hR : RV B g n s (.slice Au s.1.length cu) (.slice Ao s.2.length co) (w.drewN nq) := HR.out
    have c1' : (w.drewN nq).cell? ⟨g, 2, none⟩ = some (.slice Ao s.2.length co) := c2
    have HD : Hid (Below B w (w.drewN nq) ∧ Others 50 w (w.drewN nq) ∧ B ≤ (w.drewN nq).heap.size) := ⟨⟨rfl, rfl, rfl, Nat.le_refl _, fun _ _ => rfl⟩, fun _ _ h _ _ => h, hB⟩
    have HR1 := Lib.hid hR
    clear hR HR c0 c1 c2
    generalize w.drewN nq = wa at *
    go_wp2_with (at_builtin; refine Words.wpList_append_any _ rfl (.tmp 42) (.tmp 44) _ rfl B 3 i0 _ 1 8 Try.underlying37 hi0 hz0 hz1 hz2 rfl (by omega) (.slice Ao s.2.length co) s.2.length (s.2.map nV) rfl (HR1.out.2.2.1.alloc _) (wa.heap.size + 1) (some ⟨wa.heap.size, 0, none⟩) 1 1 [nV x] rfl (reads_one _ _ rfl x) HX.out (by simp only [maxLen]; omega) (by omega) (by have := HD.out.2.2; simp; omega) ?_; intro v' w2 ho hg hat; obtain ⟨A', c', rfl⟩ := own_form ho; have HE := Lib.hid (HR1.out.app_o HD.out.2.2 ho hg hat); clear ho hg hat; have c1' := HE.out.1.1.cell 2; have f1 := HE.out.1.1.frozen 2; have c1'' : w2.cell? ⟨g, 2, none⟩ = some (.slice Ao s.2.length co) := c1')
    go_ret
    exact ⟨rfl, ⟨_, _, HE.out.1.2⟩, HD.out.1.trans HE.out.2.1, HD.out.2.1.trans HE.out.2.2⟩
  · have hle : (n : Int) ≤ (s.2.length : Int) := by omega
    have hq : qput n false x s = (false, s) := by simp [qput, hc]
    rw [hq]
    clear hq
    go_enter Try.func16, Try.ntmps16
    go_upto_region 6 with fail
    go_quiet (fail)
    go_wp2_with fail
    go_ret
    exact ⟨rfl, ⟨_, _, HR.out⟩, ⟨rfl, rfl, rfl, Nat.le_refl _, fun _ _ => rfl⟩, fun _ _ h _ _ => h⟩
theorem rput (B g n : Nat) (s : List Int × List Int) (u : Bool) (x : Int) (w : World) (h : RQ B g n s w) (hB : B ≤ w.heap.size) (hn : n ≤ 64) :
    Calls Try.prog 16 #[.pointer (some ⟨g, 0, none⟩), .bool u, .int .i64 x] w fun e w' => e = .returned (.bool (qput n u x s).1) ∧ RQ B g n (qput n u x s).2 w' ∧ Below B w w' ∧ Others 50 w w' := by
  cases u
  · exact rput_o B g n s x w h hB hn
  · exact rput_u B g n s x w h hB hn
set_option maxRecDepth 100000 in
theorem rmany (B g n : Nat) (s : List Int × List Int) (w : World) (h : RQ B g n s w) :
    Calls Try.prog 18 #[.pointer (some ⟨g, 0, none⟩)] w fun e w' => e = .returned (.tuple #[.int .i64 s.1.length, .int .i64 s.2.length]) ∧ RQ B g n s w' ∧ Below B w w' ∧ Others 50 w w' := by
  obtain ⟨i0, hi0, hz0, hz1, hz2⟩ := info_parts int_info
  obtain ⟨vu, vo, h⟩ := h
  obtain ⟨Au, cu, eu⟩ := own_form h.2.1
  obtain ⟨Ao, co, eo⟩ := own_form h.2.2.1
  subst eu eo
  have c0 : w.cell? ⟨g, 0, none⟩ = some (.int .i64 n) := h.1.cell 0
  have c1 : w.cell? ⟨g, 1, none⟩ = some (.slice Au s.1.length cu) := h.1.cell 1
  have c2 : w.cell? ⟨g, 2, none⟩ = some (.slice Ao s.2.length co) := h.1.cell 2
  have hcu := own_cap h.2.1
  have hco := own_cap h.2.2.1
  have HR := Lib.hid h
  clear h
  clear i0 hi0 hz0 hz1 hz2
  go_enter Try.func18, Try.ntmps18
  go_wp2_with fail
  go_quiet (fail)
  all_goals
   go_wp2_with fail
   go_ret2
   exact ⟨rfl, ⟨_, _, HR.out⟩, ⟨rfl, rfl, rfl, Nat.le_refl _, fun _ _ => rfl⟩, fun _ _ h _ _ => h⟩
/-- both rows struck -/
theorem RV.struck {B g n : Nat} {s : List Int × List Int} {vu vo : Value} {w : World} (h : RV B g n s vu vo w) :
    RV B g n ([], []) (.slice none 0 0) (.slice none 0 0) ((w.setCell ⟨g, 1, none⟩ (.slice none 0 0)).setCell ⟨g, 2, none⟩ (.slice none 0 0)) ∧ Below B w ((w.setCell ⟨g, 1, none⟩ (.slice none 0 0)).setCell ⟨g, 2, none⟩ (.slice none 0 0)) ∧ Others 50 w ((w.setCell ⟨g, 1, none⟩ (.slice none 0 0)).setCell ⟨g, 2, none⟩ (.slice none 0 0)) := by
  have hb := h.1.set_ 1 (.slice none 0 0)
  refine ⟨⟨hb.set_ 2 _, World.ownsRow_nil _ _ _ _, World.ownsRow_nil _ _ _ _, .inl rfl, h.2.2.2.2⟩, ((Below.refl B w).setCell h.2.2.2.2 _).setCell h.2.2.2.2 _, (Others.set_ h.1 1 _).trans (Others.set_ hb 2 _)⟩
set_option maxRecDepth 100000 in
theorem rdrain (B g n : Nat) (s : List Int × List Int) (w : World) (h : RQ B g n s w) (hs : s.1.length + s.2.length ≤ 1000) :
    Calls Try.prog 14 #[.pointer (some ⟨g, 0, none⟩)] w fun e w' => e = .returned (.int .i64 ((s.1.length + s.2.length : Nat) : Int)) ∧ RQ B g n ([], []) w' ∧ Below B w w' ∧ Others 50 w w' := by
  obtain ⟨i0, hi0, hz0, hz1, hz2⟩ := info_parts int_info
  obtain ⟨vu, vo, h⟩ := h
  obtain ⟨Au, cu, eu⟩ := own_form h.2.1
  obtain ⟨Ao, co, eo⟩ := own_form h.2.2.1
  subst eu eo
  have c0 : w.cell? ⟨g, 0, none⟩ = some (.int .i64 n) := h.1.cell 0
  have c1 : w.cell? ⟨g, 1, none⟩ = some (.slice Au s.1.length cu) := h.1.cell 1
  have c2 : w.cell? ⟨g, 2, none⟩ = some (.slice Ao s.2.length co) := h.1.cell 2
  have hcu := own_cap h.2.1
  have hco := own_cap h.2.2.1
  have HR := Lib.hid h
  clear h
  clear i0 hi0 hz0 hz1 hz2
  have hw : IntKind.i64.wrap ((s.1.length : Int) + (s.2.length : Int)) = (s.1.length : Int) + (s.2.length : Int) := wrap_small _ (by omega) (by omega)
  go_enter Try.func14, Try.ntmps14
  go_wp2_with fail
  go_quiet (fail)
  all_goals
   have hR : RV B g n s (.slice Au s.1.length cu) (.slice Ao s.2.length co) (w.drewN nq) := HR.out
   have c1' : (w.drewN nq).cell? ⟨g, 1, none⟩ = some (.slice Au s.1.length cu) := c1
   have c2' : (w.drewN nq).cell? ⟨g, 2, none⟩ = some (.slice Ao s.2.length co) := c2
   have HD : Hid (Below B w (w.drewN nq) ∧ Others 50 w (w.drewN nq)) := ⟨⟨rfl, rfl, rfl, Nat.le_refl _, fun _ _ => rfl⟩, fun _ _ h _ _ => h⟩
   have f1 := hR.1.frozen 1
   have f2 := hR.1.frozen 2
   have HR1 := Lib.hid hR
   clear hR HR c0 c1 c2
   generalize w.drewN nq = wa at *
   go_wp2_with fail
   go_ret
   exact ⟨by simp, ⟨_, _, HR1.out.struck.1⟩, HD.out.1.trans HR1.out.struck.2.1, HD.out.2.trans HR1.out.struck.2.2⟩
theorem rtake_n (B g n : Nat) (w : World) (h : RQ B g n ([], []) w) :
    Calls Try.prog 12 #[.pointer (some ⟨g, 0, none⟩)] w fun e w' => e = .returned (.tuple #[.int .i64 0, .bool false]) ∧ RQ B g n ([], []) w' ∧ Below B w w' ∧ Others 50 w w' := by
  obtain ⟨vu, vo, h⟩ := h
  obtain ⟨Au, cu, eu⟩ := own_form h.2.1
  obtain ⟨Ao, co, eo⟩ := own_form h.2.2.1
  subst eu eo
  have c1 : w.cell? ⟨g, 1, none⟩ = some (.slice Au 0 cu) := h.1.cell 1
  have c2 : w.cell? ⟨g, 2, none⟩ = some (.slice Ao 0 co) := h.1.cell 2
  have HR := Lib.hid h
  clear h
  go_enter Try.func12, Try.ntmps12
  go_wp2_with fail
  go_ret2
  exact ⟨rfl, ⟨_, _, HR.out⟩, Below.refl _ _, Others.refl _ _⟩
/-- what stands behind the first one of a row -/
theorem reads_tail {w : World} {A : Option Addr} {x : Int} {xs : List Int} {c base : Nat} (h : w.ownsRow base 3 1 (.slice A (x :: xs).length c) (x :: xs).length ((x :: xs).map nV)) :
    Words.Reads w w.heap.size 1 (if c = 1 then A else A.map (·.add 1)) xs.length (xs.map nV) := by
  have h0 := Words.Reads.cut (k := 1) (cap := c) (Words.Reads.of_own h) (by simp) (own_cap h)
  simpa using h0
theorem own_head {w : World} {A : Option Addr} {x : Int} {xs : List Int} {c base : Nat} (h : w.ownsRow base 3 1 (.slice A (x :: xs).length c) (x :: xs).length ((x :: xs).map nV)) :
    ∃ b, A = some ⟨b, 0, none⟩ ∧ w.cell? ⟨b, 0, none⟩ = some (.int .i64 x) := by
  obtain ⟨b, cap, e, _, _⟩ := h.form (by simp)
  injection e with e _ _
  subst e
  exact ⟨b, rfl, h.cells (g := b) rfl 0 (nV x) rfl⟩
set_option maxRecDepth 100000 in
theorem rtake_u (B g n : Nat) (xs os : List Int) (x : Int) (w : World) (h : RQ B g n (x :: xs, os) w) (hB : B ≤ w.heap.size) (hl : xs.length ≤ 64) :
    Calls Try.prog 12 #[.pointer (some ⟨g, 0, none⟩)] w fun e w' => e = .returned (.tuple #[.int .i64 x, .bool true]) ∧ RQ B g n (xs, os) w' ∧ Below B w w' ∧ Others 50 w w' := by
  obtain ⟨i0, hi0, hz0, hz1, hz2⟩ := info_parts int_info
  obtain ⟨vu, vo, h⟩ := h
  obtain ⟨Au, cu, eu⟩ := own_form h.2.1
  obtain ⟨Ao, co, eo⟩ := own_form h.2.2.1
  subst eu eo
  obtain ⟨bx, ea, cx⟩ := own_head h.2.1
  subst ea
  have c1 : w.cell? ⟨g, 1, none⟩ = some (.slice (some ⟨bx, 0, none⟩) (xs.length + 1) cu) := h.1.cell 1
  have c2 : w.cell? ⟨g, 2, none⟩ = some (.slice Ao os.length co) := h.1.cell 2
  have hcap : xs.length + 1 ≤ cu := own_cap h.2.1
  have hcap' : (1 : Int) ≤ (cu : Int) := by omega
  have HT := Lib.hid (reads_tail h.2.1)
  have HX := Lib.hid (one_nums xs)
  have hgl := Words.Blk.lt h.1
  have hbl := block_lt_of_cell cx
  have HR := Lib.hid h
  clear h
  have HN := Lib.hid (lit_nil w _ B rfl hB)
  go_enter Try.func12, Try.ntmps12
  by_cases h1 : cu = 1
  all_goals
    (first | (rw [if_pos h1] at HT; have hcc : ((cu : Nat) : Int) = 1 := by omega) | (rw [if_neg h1] at HT; have hcc : ¬ ((cu : Nat) : Int) = 1 := by omega))
    go_wp2_with (at_builtin; refine Words.wpList_append_any _ rfl (.tmp 19) (.tmp 24) _ rfl B 3 i0 _ 1 8 Try.underlying37 hi0 hz0 hz1 hz2 rfl (by omega) (.slice (some ⟨w.heap.size, 0, none⟩) 0 0) 0 [] rfl HN.out w.heap.size _ xs.length _ (xs.map nV) rfl (HT.out.alloc (Nat.le_refl _) _) HX.out (by simp only [maxLen]; omega) (by omega) (by simp; omega) ?_; intro v' w2 ho hg hat; rw [Nat.zero_add, List.nil_append] at ho; obtain ⟨A', c', rfl⟩ := own_form ho; have HE := Lib.hid (HR.out.new_u hB HN.out ho hg hat); clear ho hg hat; have c1' := HE.out.1.1.cell 1; have f1 := HE.out.1.1.frozen 1; have c1'' : w2.cell? ⟨g, 1, none⟩ = some (.slice (some ⟨bx, 0, none⟩) (xs.length + 1) cu) := c1')
    go_ret2
    exact ⟨rfl, ⟨_, _, HE.out.1.2⟩, HE.out.2.1, HE.out.2.2⟩
set_option maxRecDepth 100000 in
theorem rtake_o (B g n : Nat) (xs : List Int) (x : Int) (w : World) (h : RQ B g n ([], x :: xs) w) (hB : B ≤ w.heap.size) (hl : xs.length ≤ 64) :
    Calls Try.prog 12 #[.pointer (some ⟨g, 0, none⟩)] w fun e w' => e = .returned (.tuple #[.int .i64 x, .bool true]) ∧ RQ B g n ([], xs) w' ∧ Below B w w' ∧ Others 50 w w' := by
  obtain ⟨i0, hi0, hz0, hz1, hz2⟩ := info_parts int_info
  obtain ⟨vu, vo, h⟩ := h
  obtain ⟨Au, cu, eu⟩ := own_form h.2.1
  obtain ⟨Ao, co, eo⟩ := own_form h.2.2.1
  subst eu eo
  obtain ⟨bx, ea, cx⟩ := own_head h.2.2.1
  subst ea
  have c1 : w.cell? ⟨g, 1, none⟩ = some (.slice Au 0 cu) := h.1.cell 1
  have c2 : w.cell? ⟨g, 2, none⟩ = some (.slice (some ⟨bx, 0, none⟩) (xs.length + 1) co) := h.1.cell 2
  have hcap : xs.length + 1 ≤ co := own_cap h.2.2.1
  have hcap' : (1 : Int) ≤ (co : Int) := by omega
  have HT := Lib.hid (reads_tail h.2.2.1)
  have HX := Lib.hid (one_nums xs)
  have hgl := Words.Blk.lt h.1
  have hbl := block_lt_of_cell cx
  have HR := Lib.hid h
  clear h
  have HN := Lib.hid (lit_nil w _ B rfl hB)
  go_enter Try.func12, Try.ntmps12
  by_cases h1 : co = 1
  all_goals
    (first | (rw [if_pos h1] at HT; have hcc : ((co : Nat) : Int) = 1 := by omega) | (rw [if_neg h1] at HT; have hcc : ¬ ((co : Nat) : Int) = 1 := by omega))
    go_wp2_with (at_builtin; refine Words.wpList_append_any _ rfl (.tmp 42) (.tmp 47) _ rfl B 3 i0 _ 1 8 Try.underlying37 hi0 hz0 hz1 hz2 rfl (by omega) (.slice (some ⟨w.heap.size, 0, none⟩) 0 0) 0 [] rfl HN.out w.heap.size _ xs.length _ (xs.map nV) rfl (HT.out.alloc (Nat.le_refl _) _) HX.out (by simp only [maxLen]; omega) (by omega) (by simp; omega) ?_; intro v' w2 ho hg hat; rw [Nat.zero_add, List.nil_append] at ho; obtain ⟨A', c', rfl⟩ := own_form ho; have HE := Lib.hid (HR.out.new_o hB HN.out ho hg hat); clear ho hg hat; have c1' := HE.out.1.1.cell 2; have f1 := HE.out.1.1.frozen 2; have c1'' : w2.cell? ⟨g, 2, none⟩ = some (.slice (some ⟨bx, 0, none⟩) (xs.length + 1) co) := c1')
    go_ret2
    exact ⟨rfl, ⟨_, _, HE.out.1.2⟩, HE.out.2.1, HE.out.2.2⟩
theorem rtake (B g n : Nat) (s : List Int × List Int) (w : World) (h : RQ B g n s w) (hB : B ≤ w.heap.size) (hn : n ≤ 64) (hf : Fits n s) :
    Calls Try.prog 12 #[.pointer (some ⟨g, 0, none⟩)] w fun e w' => e = .returned (.tuple #[.int .i64 (qtake s).1.1, .bool (qtake s).1.2]) ∧ RQ B g n (qtake s).2 w' ∧ Below B w w' ∧ Others 50 w w' := by
  obtain ⟨us, os⟩ := s
  obtain ⟨h1, h2⟩ := hf
  rcases us with _ | ⟨x, us⟩
  · rcases os with _ | ⟨x, os⟩
    · exact rtake_n B g n w h
    · exact rtake_o B g n os x w h hB (by simp only [List.length_cons] at h2; omega)
  · exact rtake_u B g n us os x w h hB (by simp only [List.length_cons] at h1; omega)
end Go.Proofs.Ytfogihnjeaeifaa
