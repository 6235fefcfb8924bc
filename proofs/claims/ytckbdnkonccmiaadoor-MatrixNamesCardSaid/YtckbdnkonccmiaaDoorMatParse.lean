/-
  The walk of matrix.Parse.
-/
import Derived.Test.YtckbdnkonccmiaaDoorMatPlan
namespace Go.Proofs.YtckbdnkonccmiaaDoor
open Go.RowKit
open Go.RowKit
theorem results_cell3 {P : Program} {fn : Func} {p u v : Tmp} {ty : TypeId} (h : fn.results = #[.cell p ty, .tmp u, .tmp v]) (tmps : Array Value) (w : World) (g : Nat) (t : TypeId) (cs : Array Value) (fr : Nat × Nat) (d : TypeDesc)
    (hp : tmps.getD p undef = .pointer (some ⟨g, 0, none⟩)) (hg : w.heap[g]? = some (.cells cs t fr))
    (hu : P.underlying ty = some d) (hd : (match d with | .struct _ | .array _ _ => true | _ => false) = true) (hi : (P.info? ty).map (·.size) = some cs.size) :
    (results fn tmps).run P w = .ok (.tuple #[.agg cs, tmps.getD u undef, tmps.getD v undef]) w := by
  have hp' : tmps[p]?.getD undef = .pointer (some ⟨g, 0, none⟩) := by simpa using hp
  simp [results, h, hp', asAddr, run_loadVar_row w g t ty cs fr d hg hu hd hi]
def zeroMV : Array Value := #[.int .i64 0, .int .i64 0, .int .i64 0, .int .i64 0, .string (ByteArray.mk #[]), .slice none 0 0, .slice none 0 0, .slice none 0 0, .slice none 0 0]
theorem grown_setRow (W : World) (g : Nat) (cs : Array Value) : W.grownBy (W.setRow g cs) (some g) :=
  ⟨rfl, rfl, rfl, by rw [setRow_size]; exact Nat.le_refl _, fun i _ hi => setRow_other W g i cs (fun e => hi (by rw [e]))⟩
theorem setRow_below {B g : Nat} {w w' : World} {cs : Array Value} (h : Below B w w') (hg : B ≤ g) : Below B w (w'.setRow g cs) :=
  ⟨h.os, h.tape, h.output, by rw [setRow_size]; exact h.size, fun k hk => by rw [setRow_other w' g k cs (by omega)]; exact h.block k hk⟩
set_option maxHeartbeats 1000000 in
set_option maxRecDepth 100000 in
theorem forms_new (w : World) : Calls Tryd.prog 31 #[] w fun e w' => ∃ b, e = .returned (.map (some b)) ∧ MapV formZ w' b 6 formsF ∧ Below w.heap.size w w' ∧ w.heap.size ≤ b := by
  have hmm := @run_makeMap Tryd.prog
  have HS : Hid (MapV formZ (w.alloc (.map #[] 0)) w.heap.size 0 (fun _ => none) ∧ Below w.heap.size w (w.alloc (.map #[] 0))) := Lib.hid ⟨MapV.made formZ w, (Below.refl _ _).alloc (Nat.le_refl _) _⟩
  go_enter Tryd.func31, Tryd.ntmps31
  go_wp2_with (((with_reducible show wpList _ _ _ (⟨_, .insert _ _ _ _, _, _, _, _⟩ :: _) _ _); refine wpList_insert_at _ rfl _ _ _ 67 96 rfl Tryd.underlying67 rfl HS.out.1 (by simp only [maxLen]; omega) rfl rfl (by decide) ?_; intro w1 hM hg; have HS := Lib.hid (And.intro hM (HS.out.2.grown hg (by have := HS.out.2.size; omega) (fun k hk => by injection hk with hk; omega))); clear hM hg))
  go_ret
  exact ⟨_, rfl, HS.out.1, HS.out.2, Nat.le_refl _⟩
theorem data_len (s : ByteArray) : s.data.toList.length = s.size := by simp
theorem textE_ne {l : List UInt8} {k no : Int} (h : textE l = some (k, no)) : k ≠ 0 := by
  unfold textE at h
  split at h
  · injection h with h; injection h with h; omega
  · have := (firstBad_some h).1; omega
/-- a matrix' rows are its own: each of its kind -/
structure OwnMat (w : World) (m : Mat) (vd vp vc ve : Value) : Prop where
  ds : ∃ B, w.ownsRow B 47 3 vd m.devs.length (m.devs.flatMap Dev.cells)
  ps : ∃ B, w.ownsRow B 45 6 vp m.pts.length (m.pts.flatMap Pt.cells)
  cs : ∃ B, w.ownsRow B 43 5 vc m.css.length (m.css.flatMap Cs.cells)
  es : ∃ B, w.ownsRow B 54 5 ve m.efs.length (m.efs.flatMap Ef.cells)
  ci : ∀ c ∈ m.css, ∃ B', w.ownsRow B' 3 1 c.v c.pts.length (c.pts.flatMap nC)
  ei : ∀ c ∈ m.efs, ∃ B', w.ownsRow B' 3 1 c.v c.cs.length (c.cs.flatMap nC)
theorem OwnMat.mat {w : World} {m : Mat} {vd vp vc ve : Value} (h : OwnMat w m vd vp vc ve) : MatAt w m vd vp vc ve := by
  obtain ⟨⟨_, h1⟩, ⟨_, h2⟩, ⟨_, h3⟩, ⟨_, h4⟩, h5, h6⟩ := h
  exact ⟨LawFrame.RowsAt.of_own Dev.cells_len (by decide) h1, LawFrame.RowsAt.of_own Pt.cells_len (by decide) h2, ⟨LawFrame.RowsAt.of_own Cs.cells_len (by decide) h3, fun c hc => by obtain ⟨B', hB⟩ := h5 c hc; exact LawFrame.RowsAt.of_own nC_len (by decide) hB⟩, ⟨LawFrame.RowsAt.of_own Ef.cells_len (by decide) h4, fun c hc => by obtain ⟨B', hB⟩ := h6 c hc; exact LawFrame.RowsAt.of_own nC_len (by decide) hB⟩⟩
theorem OwnMat.keep {w w' : World} {m : Mat} {vd vp vc ve : Value} {k : Nat} {cs : Array Value} (h : OwnMat w m vd vp vc ve) (hg : w.grownBy w' (some k)) (hb : Words.Blk w k 27 cs) : OwnMat w' m vd vp vc ve := by
  have kk : ∀ {base : Nat} {e : TypeId} {size n : Nat} {v : Value} {xs : List Value}, w.ownsRow base e size v n xs → e ≠ 27 → w'.ownsRow base e size v n xs := fun ho hne => ho.kept hg (.inr (Words.own_blk_ne ho hb hne))
  obtain ⟨⟨B1, h1⟩, ⟨B2, h2⟩, ⟨B3, h3⟩, ⟨B4, h4⟩, h5, h6⟩ := h
  exact ⟨⟨B1, kk h1 (by decide)⟩, ⟨B2, kk h2 (by decide)⟩, ⟨B3, kk h3 (by decide)⟩, ⟨B4, kk h4 (by decide)⟩, fun c hc => by obtain ⟨B', hB⟩ := h5 c hc; exact ⟨B', kk hB (by decide)⟩, fun c hc => by obtain ⟨B', hB⟩ := h6 c hc; exact ⟨B', kk hB (by decide)⟩⟩
theorem OwnMat.below {w w' : World} {m : Mat} {vd vp vc ve : Value} (h : OwnMat w m vd vp vc ve) (hb : Below w.heap.size w w') : OwnMat w' m vd vp vc ve := by
  obtain ⟨⟨B1, h1⟩, ⟨B2, h2⟩, ⟨B3, h3⟩, ⟨B4, h4⟩, h5, h6⟩ := h
  exact ⟨⟨B1, own_below h1 hb⟩, ⟨B2, own_below h2 hb⟩, ⟨B3, own_below h3 hb⟩, ⟨B4, own_below h4 hb⟩, fun c hc => by obtain ⟨B', hB⟩ := h5 c hc; exact ⟨B', own_below hB hb⟩, fun c hc => by obtain ⟨B', hB⟩ := h6 c hc; exact ⟨B', own_below hB hb⟩⟩
theorem own_zero (w : World) : OwnMat w zeroMat (.slice none 0 0) (.slice none 0 0) (.slice none 0 0) (.slice none 0 0) :=
  ⟨⟨0, World.ownsRow_nil _ _ _ _⟩, ⟨0, World.ownsRow_nil _ _ _ _⟩, ⟨0, World.ownsRow_nil _ _ _ _⟩, ⟨0, World.ownsRow_nil _ _ _ _⟩, fun c hc => (by cases hc), fun c hc => (by cases hc)⟩
/-- what is told of a text: its matrix, what is wrong, where -/
def parseO (l : List UInt8) : Mat × Int × Int := match parseF l with
  | .inl e => (zeroMat, e.1, e.2)
  | .inr m => (m, 0, 0)
def ParsedIs (l : List UInt8) (w : World) (e : Ending) (w' : World) : Prop := ∃ m vd vp vc ve, e = .returned (.tuple #[m.val vd vp vc ve, .int .i64 (parseO l).2.1, .int .i64 (parseO l).2.2]) ∧ m.bare = (parseO l).1 ∧ OwnMat w' m vd vp vc ve ∧ SmallM m 100000 ∧ Below w.heap.size w w'
theorem mat_zero (w : World) : MatAt w zeroMat (.slice none 0 0) (.slice none 0 0) (.slice none 0 0) (.slice none 0 0) :=
  ⟨LawFrame.RowsAt.nil _ _ _, LawFrame.RowsAt.nil _ _ _, ⟨LawFrame.RowsAt.nil _ _ _, fun c hc => (by cases hc)⟩, ⟨LawFrame.RowsAt.nil _ _ _, fun c hc => (by cases hc)⟩⟩
theorem small_zero (n : Nat) : SmallM zeroMat n := ⟨Nat.zero_le _, fun x hx => (by cases hx), fun x hx => (by cases hx), fun x hx => (by cases hx), fun x hx => (by cases hx), ⟨Nat.zero_le _, Nat.zero_le _, Nat.zero_le _, Nat.zero_le _⟩⟩
theorem parsed_zero {l : List UInt8} {w w' : World} {e : Ending} {k no : Int} (hp : parseO l = (zeroMat, k, no)) (he : e = .returned (.tuple #[.agg zeroMV, .int .i64 k, .int .i64 no])) (hb : Below w.heap.size w w') : ParsedIs l w e w' := by
  subst he
  refine ⟨zeroMat, .slice none 0 0, .slice none 0 0, .slice none 0 0, .slice none 0 0, ?_, ?_, own_zero w', small_zero _, hb⟩
  · rw [hp]; rfl
  · rw [hp]; rfl
theorem told_zero (W : World) (g mb fb : Nat) : ToldAs ⟨W, g, mb, 0, zeroMat, fun _ => none, false, false, .slice none 0 0, .slice none 0 0, .slice none 0 0, .slice none 0 0, fb, none⟩ startP 0 :=
  ⟨rfl, rfl, rfl, rfl, Nat.le_refl _, small_zero 0⟩
theorem step_store_row {ops : Array Oper} {o : Oper} {a : Act} {w : World} {K : Act → World → Prop} {Q : Exit → Act → World → Prop} {E : Prop} (hgd : o.guard = none) (ty : TypeId) (x y : Operand) (ho : o.op = .store ty x y)
    (g : Nat) (cells : Array Value) (hx : a.eval x = .pointer (some ⟨g, 0, none⟩)) (hy : a.eval y = .agg cells)
    (t : TypeId) (old : Array Value) (hg : w.heap[g]? = some (.cells old t (0, 0))) (hi : (Tryd.prog.info? ty).map (·.size) = some cells.size)
    (hold : old.size = cells.size) (h1 : cells.all (·.oneCell') = true)
    (h : K (a.put o.dst undef) (w.setRow g cells)) : if Region.wanted o (yielded ops a.tmps) = true then Oper.wp Tryd.prog o a w K Q else E := by
  have hw : Region.wanted o (yielded ops a.tmps) = true := by simp [Region.wanted, hgd]
  rw [if_pos hw]
  exact wp_store_row ty x y ho g cells hx hy t old hg hi hold h1 h
/-- a matrix's cells, cleared one by one -/
theorem clear9 {w2 : World} {g b : Nat} {u v : Value} (h : Words.Blk w2 g 27 zeroMV) (k : Words.Blk w2 b 50 #[u, v]) (hne : b ≠ g) :
    Words.Blk (((((((((w2.setCell ⟨g, 0, none⟩ (.int .i64 0)).setCell ⟨g, 1, none⟩ (.int .i64 0)).setCell ⟨g, 2, none⟩ (.int .i64 0)).setCell ⟨g, 3, none⟩ (.int .i64 0)).setCell ⟨g, 4, none⟩ (.string (ByteArray.mk #[]))).setCell ⟨g, 5, none⟩ (.slice none 0 0)).setCell ⟨g, 6, none⟩ (.slice none 0 0)).setCell ⟨g, 7, none⟩ (.slice none 0 0)).setCell ⟨g, 8, none⟩ (.slice none 0 0)).drew g 27 zeroMV ∧ (((((((((w2.setCell ⟨g, 0, none⟩ (.int .i64 0)).setCell ⟨g, 1, none⟩ (.int .i64 0)).setCell ⟨g, 2, none⟩ (.int .i64 0)).setCell ⟨g, 3, none⟩ (.int .i64 0)).setCell ⟨g, 4, none⟩ (.string (ByteArray.mk #[]))).setCell ⟨g, 5, none⟩ (.slice none 0 0)).setCell ⟨g, 6, none⟩ (.slice none 0 0)).setCell ⟨g, 7, none⟩ (.slice none 0 0)).setCell ⟨g, 8, none⟩ (.slice none 0 0)).cell? ⟨b, 0, none⟩ = some u ∧ ∀ {B : Nat} {w : World}, Below B w w2 → B ≤ g → Below B w (((((((((w2.setCell ⟨g, 0, none⟩ (.int .i64 0)).setCell ⟨g, 1, none⟩ (.int .i64 0)).setCell ⟨g, 2, none⟩ (.int .i64 0)).setCell ⟨g, 3, none⟩ (.int .i64 0)).setCell ⟨g, 4, none⟩ (.string (ByteArray.mk #[]))).setCell ⟨g, 5, none⟩ (.slice none 0 0)).setCell ⟨g, 6, none⟩ (.slice none 0 0)).setCell ⟨g, 7, none⟩ (.slice none 0 0)).setCell ⟨g, 8, none⟩ (.slice none 0 0)).drew := by
  have h1 : Words.Blk (((((((((w2.setCell ⟨g, 0, none⟩ (.int .i64 0)).setCell ⟨g, 1, none⟩ (.int .i64 0)).setCell ⟨g, 2, none⟩ (.int .i64 0)).setCell ⟨g, 3, none⟩ (.int .i64 0)).setCell ⟨g, 4, none⟩ (.string (ByteArray.mk #[]))).setCell ⟨g, 5, none⟩ (.slice none 0 0)).setCell ⟨g, 6, none⟩ (.slice none 0 0)).setCell ⟨g, 7, none⟩ (.slice none 0 0)).setCell ⟨g, 8, none⟩ (.slice none 0 0)) g 27 zeroMV := (((((((((h.set_ 0 (.int .i64 0)).set_ 1 (.int .i64 0)).set_ 2 (.int .i64 0)).set_ 3 (.int .i64 0)).set_ 4 (.string (ByteArray.mk #[]))).set_ 5 (.slice none 0 0)).set_ 6 (.slice none 0 0)).set_ 7 (.slice none 0 0)).set_ 8 (.slice none 0 0))
  have k1 : Words.Blk (((((((((w2.setCell ⟨g, 0, none⟩ (.int .i64 0)).setCell ⟨g, 1, none⟩ (.int .i64 0)).setCell ⟨g, 2, none⟩ (.int .i64 0)).setCell ⟨g, 3, none⟩ (.int .i64 0)).setCell ⟨g, 4, none⟩ (.string (ByteArray.mk #[]))).setCell ⟨g, 5, none⟩ (.slice none 0 0)).setCell ⟨g, 6, none⟩ (.slice none 0 0)).setCell ⟨g, 7, none⟩ (.slice none 0 0)).setCell ⟨g, 8, none⟩ (.slice none 0 0)) b 50 #[u, v] := (((((((((k.far (p := ⟨g, 0, none⟩) hne ((.int .i64 0) : Value)).far (p := ⟨g, 1, none⟩) hne ((.int .i64 0) : Value)).far (p := ⟨g, 2, none⟩) hne ((.int .i64 0) : Value)).far (p := ⟨g, 3, none⟩) hne ((.int .i64 0) : Value)).far (p := ⟨g, 4, none⟩) hne ((.string (ByteArray.mk #[])) : Value)).far (p := ⟨g, 5, none⟩) hne ((.slice none 0 0) : Value)).far (p := ⟨g, 6, none⟩) hne ((.slice none 0 0) : Value)).far (p := ⟨g, 7, none⟩) hne ((.slice none 0 0) : Value)).far (p := ⟨g, 8, none⟩) hne ((.slice none 0 0) : Value))
  have b1 : ∀ {B : Nat} {w : World}, Below B w w2 → B ≤ g → Below B w (((((((((w2.setCell ⟨g, 0, none⟩ (.int .i64 0)).setCell ⟨g, 1, none⟩ (.int .i64 0)).setCell ⟨g, 2, none⟩ (.int .i64 0)).setCell ⟨g, 3, none⟩ (.int .i64 0)).setCell ⟨g, 4, none⟩ (.string (ByteArray.mk #[]))).setCell ⟨g, 5, none⟩ (.slice none 0 0)).setCell ⟨g, 6, none⟩ (.slice none 0 0)).setCell ⟨g, 7, none⟩ (.slice none 0 0)).setCell ⟨g, 8, none⟩ (.slice none 0 0)) := fun hb hB => (((((((((hb.setCell (p := ⟨g, 0, none⟩) hB (.int .i64 0)).setCell (p := ⟨g, 1, none⟩) hB (.int .i64 0)).setCell (p := ⟨g, 2, none⟩) hB (.int .i64 0)).setCell (p := ⟨g, 3, none⟩) hB (.int .i64 0)).setCell (p := ⟨g, 4, none⟩) hB (.string (ByteArray.mk #[]))).setCell (p := ⟨g, 5, none⟩) hB (.slice none 0 0)).setCell (p := ⟨g, 6, none⟩) hB (.slice none 0 0)).setCell (p := ⟨g, 7, none⟩) hB (.slice none 0 0)).setCell (p := ⟨g, 8, none⟩) hB (.slice none 0 0))
  generalize (((((((((w2.setCell ⟨g, 0, none⟩ (.int .i64 0)).setCell ⟨g, 1, none⟩ (.int .i64 0)).setCell ⟨g, 2, none⟩ (.int .i64 0)).setCell ⟨g, 3, none⟩ (.int .i64 0)).setCell ⟨g, 4, none⟩ (.string (ByteArray.mk #[]))).setCell ⟨g, 5, none⟩ (.slice none 0 0)).setCell ⟨g, 6, none⟩ (.slice none 0 0)).setCell ⟨g, 7, none⟩ (.slice none 0 0)).setCell ⟨g, 8, none⟩ (.slice none 0 0)) = w3 at *
  exact ⟨h1.below (below_drewn (Below.refl _ _) 1) h1.lt, k1.cell 0, fun hb hB => below_drewn (b1 hb hB) 1⟩
/-- the reader as it is made -/
def rdr0 (mb : Nat) : Array Value := #[.int .i64 0, .int .i64 0, .int .i64 0, .int .i64 0, .string (ByteArray.mk #[]), .slice none 0 0, .slice none 0 0, .slice none 0 0, .slice none 0 0, .map (some mb), .bool false, .bool false, .slice none 0 0, .bool false, .bool false]
theorem made_reader (W : World) (fb : Nat) (w' : World) (hf : MapV formZ w' fb 6 formsF) (hfb : W.heap.size + 2 ≤ fb)
    (hb : Below (W.heap.size + 2) ((W.alloc (.map #[] 0)).alloc (.cells (rdr0 W.heap.size) 66)) w') :
    RSS ⟨W, W.heap.size + 1, W.heap.size, 0, zeroMat, fun _ => none, false, false, .slice none 0 0, .slice none 0 0, .slice none 0 0, .slice none 0 0, fb, none⟩ ([], false, false) w' := by
  have hs : ((W.alloc (.map #[] 0)).alloc (.cells (rdr0 W.heap.size) 66)).heap.size = W.heap.size + 2 := by simp
  have hb' := hb
  rw [← hs] at hb'
  have hm : MapV placeZ ((W.alloc (.map #[] 0)).alloc (.cells (rdr0 W.heap.size) 66)) W.heap.size 0 (fun _ => none) := (MapV.made placeZ W).below ((Below.refl _ _).alloc (Nat.le_refl _) _)
  have hk : Words.Blk ((W.alloc (.map #[] 0)).alloc (.cells (rdr0 W.heap.size) 66)) (W.heap.size + 1) 66 (rdr0 W.heap.size) := by
    have := Words.Blk.new (W.alloc (.map #[] 0)) 66 (rdr0 W.heap.size)
    simpa using this
  refine ⟨.slice none 0 0, ⟨?_, Nat.le_succ _, Nat.le_refl _, World.ownsRow_nil _ _ _ _, World.ownsRow_nil _ _ _ _, World.ownsRow_nil _ _ _ _, World.ownsRow_nil _ _ _ _, fun c hc => (by cases hc), fun c hc => (by cases hc), ?_⟩, LawFrame.RowsAt.nil _ _ _, ?_, ⟨hf, (by show fb ≠ W.heap.size; omega), fun g cs hl => (by cases hl)⟩⟩
  · exact hk.below hb' hk.lt
  · exact hm.below hb'
  · exact (((Below.refl _ _).alloc (Nat.le_refl _) _).alloc (by simp) _).trans (hb.mono (by show W.heap.size ≤ _; first | omega | (rw [hs]; omega)))
theorem drop_here {α : Type} {l : List α} {k : Nat} {x : α} (h : l[k]? = some x) : l.drop k = x :: l.drop (k + 1) := by
  obtain ⟨hk, rfl⟩ := List.getElem?_eq_some_iff.1 h
  exact (List.getElem_cons_drop (h := hk)).symm
theorem runF_step {p : PSt} {l : List (Int × List ByteArray)} {k : Nat} {x : Int × List ByteArray} (h : l[k]? = some x) (h0 : (lineF p x.2).1 = 0) : runF p (l.drop k) = runF (lineF p x.2).2 (l.drop (k + 1)) := by
  rw [drop_here h]
  show (if _ then _ else _) = _
  rw [if_pos h0]
theorem runF_stop {p : PSt} {l : List (Int × List ByteArray)} {k : Nat} {x : Int × List ByteArray} (h : l[k]? = some x) (h0 : (lineF p x.2).1 ≠ 0) : runF p (l.drop k) = .inl ((lineF p x.2).1, x.1) := by
  rw [drop_here h]
  show (if _ then _ else _) = _
  rw [if_neg h0]
theorem fits_told {s : List UInt8} (h : textE s = none) : ∀ x ∈ toldL (textL s), Fits x.2 ∧ x.2 ≠ [] := by
  intro x hx
  unfold toldL at hx
  obtain ⟨y, hy, rfl⟩ := List.mem_map.1 hx
  obtain ⟨h1, h2, h3⟩ := textL_fine (textE_none h).2 y hy
  unfold toldOf
  refine ⟨⟨by simp only [List.length_map]; omega, fun v hv => ?_⟩, by simpa using h1⟩
  simp only [List.mem_map] at hv
  obtain ⟨u, hu, rfl⟩ := hv
  have := fine_word (h3 u hu)
  unfold wordB at this
  simp only [Bool.and_eq_true, decide_eq_true_eq] at this
  omega
def Stand (W : World) (fb : Nat) (L : List (Int × List ByteArray)) (k : Nat) (w : World) : Prop := ∃ (c : RC) (s : Row) (p : PSt), c.W = W ∧ c.g = W.heap.size + 1 ∧ c.fb = fb ∧ RSS c s w ∧ ToldAs c p k ∧ runF startP L = runF p (L.drop k)
theorem Stand.old {W w : World} {fb k : Nat} {L : List (Int × List ByteArray)} (h : Stand W fb L k w) : Below W.heap.size W w := by
  obtain ⟨c, s, p, rfl, _, _, hr, _, _⟩ := h
  exact RS.old hr
theorem stand_line (W : World) (fb : Nat) (L : List (Int × List ByteArray)) (k : Nat) (hk : k ≤ 100000) (wr : World) (h : Stand W fb L k wr) (no : Int) (ws : List ByteArray) (hL : L[k]? = some (no, ws)) (v : Value) (hv : StrsAt W ws v) (hf : Fits ws) (hne : ws ≠ []) :
    Calls Tryd.prog 32 #[.pointer (some ⟨W.heap.size + 1, 0, none⟩), v, .map (some fb)] (wr.alloc (.cells #[.int .i64 no, v] 50)) fun e w2 => ∃ kk : Int, e = .returned (.int .i64 kk) ∧ Words.Blk w2 wr.heap.size 50 #[.int .i64 no, v] ∧ Below W.heap.size W w2 ∧ (kk = 0 → Stand W fb L (k + 1) w2) ∧ (kk ≠ 0 → runF startP L = .inl (kk, no)) := by
  obtain ⟨c, st, p, hW, hg, hfb, hr, hT, hrun⟩ := h
  subst hW hfb
  obtain ⟨vl, hv'⟩ := hr
  have ha := hv'.alloc (.cells #[.int .i64 no, v] 50)
  have hr2 : RSS { c with kl := some (wr.heap.size, #[.int .i64 no, v]) } st (wr.alloc (.cells #[.int .i64 no, v] 50)) := ⟨vl, ⟨ha.at_, ha.left, ha.old, ⟨ha.fm.mv, ha.fm.ne, fun g cs e => by
    injection e with e
    injection e with e1 e2
    subst e1 e2
    exact Words.Blk.new _ _ _⟩⟩⟩
  rw [← hg]
  refine (line_told { c with kl := some (wr.heap.size, #[.int .i64 no, v]) } st _ hr2 p k ⟨hT.m, hT.kn, hT.wt, hT.lk, hT.many, hT.small⟩ hk ws hne v hv hf).mono ?_
  rintro e w2 ⟨rfl, c', s', h1, h2, h3, h4, h5, hT', hr'⟩
  refine ⟨_, rfl, ?_, ?_, ?_, ?_⟩
  · obtain ⟨vl', hv''⟩ := hr'
    exact hv''.fm.ln _ _ h5
  · have := RS.old hr'
    rw [h2] at this
    exact this
  · intro h0
    exact ⟨c', s', _, h2, h1.trans hg, h4, hr', hT', by rw [hrun, runF_step hL h0]⟩
  · intro h0
    rw [hrun, runF_stop hL h0]
theorem RdrAt.own {B g mb N : Nat} {m : Mat} {kn : Kn} {wt lk wr un : Bool} {vl vd vp vc ve : Value} {w : World} (h : RdrAt B g mb N m kn wt lk vl wr un vd vp vc ve w) : OwnMat w m vd vp vc ve := ⟨⟨_, h.ds⟩, ⟨_, h.ps⟩, ⟨_, h.cs⟩, ⟨_, h.es⟩, h.ci, h.ei⟩
theorem parseO_bad {l : List UInt8} {k no : Int} (hE : textE l = none) (h : runF startP (toldL (textL l)) = .inl (k, no)) : parseO l = (zeroMat, k, no) := by
  unfold parseO parseF
  rw [hE]
  simp only
  rw [h]
theorem parseO_part {l : List UInt8} {p : PSt} (hE : textE l = none) (h : runF startP (toldL (textL l)) = .inr p) (hn : ¬ (p.wt = true ∧ p.lk = true)) : parseO l = (zeroMat, 81, 0) := by
  unfold parseO parseF
  rw [hE]
  simp only
  rw [h]
  simp only
  rw [if_neg hn]
theorem parseO_whole {l : List UInt8} {p : PSt} (hE : textE l = none) (h : runF startP (toldL (textL l)) = .inr p) (hn : p.wt = true ∧ p.lk = true) : parseO l = (p.m, 0, 0) := by
  unfold parseO parseF
  rw [hE]
  simp only
  rw [h]
  simp only
  rw [if_pos hn]
set_option maxHeartbeats 1600000 in
set_option maxRecDepth 100000 in
theorem parse_any (w : World) (s : ByteArray) (hs : s.size ≤ 1000000) (ht : Tab w) : Calls Tryd.prog 12 #[.string s] w (ParsedIs s.data.toList w) := by
  have HQ : Hid (Below w.heap.size w (w.alloc (.cells zeroMV 27)) ∧ Words.Blk (w.alloc (.cells zeroMV 27)) w.heap.size 27 zeroMV) := Lib.hid ⟨(Below.refl _ _).alloc (Nat.le_refl _) _, Words.Blk.new w _ _⟩
  have HT := Lib.hid (ht.below HQ.out.1 (Nat.le_refl _))
  have hmm := @run_makeMap Tryd.prog
  unfold zeroMV at HQ HT
  clear ht
  go_enter Tryd.func12, Tryd.ntmps12
  go_wp2_with fail
  refine (lines_all _ s hs HT.out).mono ?_
  rintro e w1 ⟨xs, A, c, k, no, rfl, hls, hb, hcs⟩
  have hxl := told_len hcs
  have hsl := data_len s
  obtain ⟨n, hn⟩ : ∃ n, n = xs.length := ⟨_, rfl⟩
  rw [← hn] at hls ⊢
  have HB1 : Hid (Below w.heap.size w w1 ∧ Words.Blk w1 w.heap.size 27 zeroMV) := Lib.hid ⟨HQ.out.1.trans (hb.mono HQ.out.1.size), HQ.out.2.below hb HQ.out.2.lt⟩
  have HLS := Lib.hid hls
  have HN := Lib.hid hn
  clear hls hb HQ HT
  rcases hcs with ⟨hE, hx0⟩ | ⟨hE, rfl, rfl, hx⟩
  · have hk0 := textE_ne hE
    have HP : Hid (parseO s.data.toList = (zeroMat, k, no)) := Lib.hid (by unfold parseO parseF; rw [hE])
    have HBW := HB1.out.2
    have HZ := Lib.hid (setRow_below (cs := #[.int .i64 0, .int .i64 0, .int .i64 0, .int .i64 0, .string (ByteArray.mk #[]), .slice none 0 0, .slice none 0 0, .slice none 0 0, .slice none 0 0]) HB1.out.1 (Nat.le_refl _))
    clear hE hx0 hn
    go_upto_region 3 with fail
    go_wp2_with ((with_reducible show wpList _ _ _ (⟨_, .store _ _ _, _, _, _, _⟩ :: _) _ _); refine wpList_store_row rfl 27 (.tmp 2) (.tmp 21) rfl w.heap.size #[.int .i64 0, .int .i64 0, .int .i64 0, .int .i64 0, .string (ByteArray.mk #[]), .slice none 0 0, .slice none 0 0, .slice none 0 0, .slice none 0 0] (by rfl) (by rfl) 27 zeroMV HB1.out.2 (by kernel_rfl) rfl (by kernel_rfl) ?_)
    (try simp only [Exit.inBlock, Exit.then])
    refine bodyPost_ret (results_cell3 rfl _ _ w.heap.size 27 #[.int .i64 0, .int .i64 0, .int .i64 0, .int .i64 0, .string (ByteArray.mk #[]), .slice none 0 0, .slice none 0 0, .slice none 0 0, .slice none 0 0] (0, 0) _ (by rfl) (setRow_heap w1 w.heap.size _ _ _ _ HB1.out.2) Tryd.underlying27 rfl (by kernel_rfl)) rfl ?_
    exact parsed_zero HP.out rfl HZ.out
  · have hn1 : n ≤ 4097 := by have := (textE_none hE).1; omega
    have HX := Lib.hid hx
    have HE := Lib.hid hE
    have HFT := Lib.hid (fits_told hE)
    clear hx hE hxl hn hsl
    go_upto_region 5 with fail
    go_wp2_with fail
    refine (forms_new _).mono ?_
    rintro e w2 ⟨fb, rfl, hfm, hbl, hfb⟩
    have HR0 : Hid (RSS ⟨w1, w1.heap.size + 1, w1.heap.size, 0, zeroMat, fun _ => none, false, false, .slice none 0 0, .slice none 0 0, .slice none 0 0, .slice none 0 0, fb, none⟩ ([], false, false) w2) := Lib.hid (made_reader w1 fb w2 hfm (by simpa using hfb) (by simpa [rdr0] using hbl))
    clear hfm hbl hfb hmm
    go_wp2_with fail
    go_loopw [30] (fun i wr => ∃ k : Nat, k ≤ n ∧ i = .int .i64 (k : Int) ∧ Hid (Stand w1 fb (toldL (textL s.data.toList)) k wr)) (fun i _ => n - (intOf i).toNat)
    case atStart => exact ⟨0, by omega, rfl, Lib.hid ⟨_, _, startP, rfl, rfl, rfl, HR0.out, told_zero _ _ _ _, rfl⟩⟩
    case round =>
      clear HR0
      obtain ⟨k, hk, rfl, HS⟩ := hrel
      by_cases hlt : k < n
      · have hk1 : (k : Int) < (n : Int) := by omega
        have hk0 : (0 : Int) ≤ (k : Int) := by omega
        have HB := Lib.hid HS.out.old
        obtain ⟨x, hx⟩ : ∃ x, xs[k]? = some x := ⟨_, List.getElem?_eq_getElem (by rw [← HN.out]; exact hlt)⟩
        obtain ⟨b, off, c', hv, hb, hcell⟩ := (LawFrame.RowsAt.below HLS.out.1 HB.out).at_ hx
        injection hv with hA hA2 hA3
        clear hA2 hA3
        subst hA
        have y0 := hcell 0 _ rfl
        have y1 := hcell 1 _ rfl
        simp only [Nat.add_zero] at y0
        have HTL : Hid ((toldL (textL s.data.toList))[k]? = some (x.no, x.ws)) := Lib.hid (by rw [← HX.out, List.getElem?_map, hx]; rfl)
        have hww := (HLS.out.2 x (List.mem_of_getElem? hx)).1
        obtain ⟨XA, xc, hxv, -, -⟩ := id hww
        rw [hxv] at y1 hww
        have HWW : Hid (StrsAt w1 x.ws (.slice XA x.ws.length xc)) := Lib.hid hww
        clear hww hxv
        obtain ⟨xn, hxn⟩ : ∃ xn, xn = x.ws.length := ⟨_, rfl⟩
        rw [← hxn] at y1 HWW
        clear hxn
        have HFW := Lib.hid (HFT.out (x.no, x.ws) (List.mem_of_getElem? HTL.out))
        have HK := Lib.hid (show k ≤ 100000 by omega)
        clear hcell hb hx
        go_wp2_with fail
        refine (stand_line w1 fb _ k HK.out wr HS.out x.no x.ws HTL.out _ HWW.out HFW.out.1 HFW.out.2).mono ?_
        rintro e w2 ⟨kk, rfl, hbk, hbw, h0, h1⟩
        have p0 : w2.cell? ⟨wr.heap.size, 0, none⟩ = some (.int .i64 x.no) := hbk.cell 0
        have HBW2 := Lib.hid (HB1.out.1.trans (hbw.mono HB1.out.1.size))
        have HBL2 : Hid (Words.Blk w2 w.heap.size 27 zeroMV) := Lib.hid (HB1.out.2.below hbw HB1.out.2.lt)
        have HBK := Lib.hid hbk
        have HLT := Lib.hid (show w.heap.size < wr.heap.size from Nat.lt_of_lt_of_le HB1.out.2.lt HB.out.size)
        have H0 := Lib.hid h0
        have H1 := Lib.hid h1
        clear hbk hbw h0 h1 y0 y1 HS
        by_cases hkk : kk = 0
        · subst hkk
          have HS2 := Lib.hid (H0.out rfl)
          clear H0 H1 p0
          go_wp2_with fail
          go_roundw
          case rel => exact ⟨k + 1, by omega, by go_num, HS2⟩
          case measure => simp [intOf]; omega
        · have HP := Lib.hid (parseO_bad HE.out (H1.out hkk))
          clear H0 H1
          have HZ := Lib.hid (setRow_below (w' := w2.drew) (cs := #[.int .i64 0, .int .i64 0, .int .i64 0, .int .i64 0, .string (ByteArray.mk #[]), .slice none 0 0, .slice none 0 0, .slice none 0 0, .slice none 0 0]) (below_drewn HBW2.out 1) (Nat.le_refl _))
          have HBD : Hid (Words.Blk w2.drew w.heap.size 27 zeroMV) := HBL2
          go_upto_region 11 with fail
          have r0 : w2.cell? ⟨w.heap.size, 0, none⟩ = some (.int .i64 0) := HBL2.out.cell 0
          have s0 : w2.frozen? ⟨w.heap.size, 0, none⟩ = false := HBL2.out.frozen 0
          have r1 : w2.cell? ⟨w.heap.size, 1, none⟩ = some (.int .i64 0) := HBL2.out.cell 1
          have s1 : w2.frozen? ⟨w.heap.size, 1, none⟩ = false := HBL2.out.frozen 1
          have r2 : w2.cell? ⟨w.heap.size, 2, none⟩ = some (.int .i64 0) := HBL2.out.cell 2
          have s2 : w2.frozen? ⟨w.heap.size, 2, none⟩ = false := HBL2.out.frozen 2
          have r3 : w2.cell? ⟨w.heap.size, 3, none⟩ = some (.int .i64 0) := HBL2.out.cell 3
          have s3 : w2.frozen? ⟨w.heap.size, 3, none⟩ = false := HBL2.out.frozen 3
          have r4 : w2.cell? ⟨w.heap.size, 4, none⟩ = some (.string (ByteArray.mk #[])) := HBL2.out.cell 4
          have s4 : w2.frozen? ⟨w.heap.size, 4, none⟩ = false := HBL2.out.frozen 4
          have r5 : w2.cell? ⟨w.heap.size, 5, none⟩ = some (.slice none 0 0) := HBL2.out.cell 5
          have s5 : w2.frozen? ⟨w.heap.size, 5, none⟩ = false := HBL2.out.frozen 5
          have r6 : w2.cell? ⟨w.heap.size, 6, none⟩ = some (.slice none 0 0) := HBL2.out.cell 6
          have s6 : w2.frozen? ⟨w.heap.size, 6, none⟩ = false := HBL2.out.frozen 6
          have r7 : w2.cell? ⟨w.heap.size, 7, none⟩ = some (.slice none 0 0) := HBL2.out.cell 7
          have s7 : w2.frozen? ⟨w.heap.size, 7, none⟩ = false := HBL2.out.frozen 7
          have r8 : w2.cell? ⟨w.heap.size, 8, none⟩ = some (.slice none 0 0) := HBL2.out.cell 8
          have s8 : w2.frozen? ⟨w.heap.size, 8, none⟩ = false := HBL2.out.frozen 8
          obtain ⟨hz9, hk9, hb9⟩ := clear9 HBL2.out HBK.out (Nat.ne_of_gt HLT.out)
          have p0a : (((((((((w2.setCell ⟨w.heap.size, 0, none⟩ (.int .i64 0)).setCell ⟨w.heap.size, 1, none⟩ (.int .i64 0)).setCell ⟨w.heap.size, 2, none⟩ (.int .i64 0)).setCell ⟨w.heap.size, 3, none⟩ (.int .i64 0)).setCell ⟨w.heap.size, 4, none⟩ (.string (ByteArray.mk #[]))).setCell ⟨w.heap.size, 5, none⟩ (.slice none 0 0)).setCell ⟨w.heap.size, 6, none⟩ (.slice none 0 0)).setCell ⟨w.heap.size, 7, none⟩ (.slice none 0 0)).setCell ⟨w.heap.size, 8, none⟩ (.slice none 0 0)).cell? ⟨wr.heap.size, 0, none⟩ = some (.int .i64 x.no) := hk9
          have HZ9 := Lib.hid (hb9 HBW2.out (Nat.le_refl _))
          have HB9 := Lib.hid hz9
          clear hz9 hk9 hb9
          go_region
          all_goals go_wp2_with fail
          all_goals (try simp only [Exit.inBlock, Exit.then])
          all_goals refine bodyPost_ret (results_cell3 rfl _ _ w.heap.size 27 zeroMV (0, 0) _ (by rfl) HB9.out Tryd.underlying27 rfl (by kernel_rfl)) rfl ?_
          all_goals exact parsed_zero HP.out rfl HZ9.out
      · obtain rfl : k = n := by omega
        obtain ⟨c, st, p, hW, hg, hfb, hr, hT, hrun⟩ := HS.out
        have hdr : (toldL (textL s.data.toList)).drop k = [] := List.drop_eq_nil_of_le (by rw [← HX.out, List.length_map, ← HN.out]; exact Nat.le_refl _)
        rw [hdr] at hrun
        have HRUN : Hid (runF startP (toldL (textL s.data.toList)) = .inr p) := Lib.hid hrun
        have HTT := Lib.hid hT
        have HW := Lib.hid (show Below w1.heap.size w1 wr from by have := RS.old hr; rw [hW] at this; exact this)
        obtain ⟨vl, hv⟩ := hr
        have HV := Lib.hid hv
        have hc := hv.cell
        rw [hg] at hc
        have z10 : wr.cell? ⟨w1.heap.size + 1, 10, none⟩ = some (.bool c.wt) := hc 10
        have z11 : wr.cell? ⟨w1.heap.size + 1, 11, none⟩ = some (.bool c.lk) := hc 11
        have HC : Hid (∀ i, wr.cell? ⟨w1.heap.size + 1, i, none⟩ = (rdrCells c.m c.mb c.wt c.lk vl st.2.1 st.2.2 c.vd c.vp c.vc c.ve)[i]?) := Lib.hid hc
        have HBWR := Lib.hid (HB1.out.1.trans (HW.out.mono HB1.out.1.size))
        have HRB := Lib.hid (HB1.out.2.below HW.out HB1.out.2.lt)
        have HZ := Lib.hid (setRow_below (cs := #[.int .i64 0, .int .i64 0, .int .i64 0, .int .i64 0, .string (ByteArray.mk #[]), .slice none 0 0, .slice none 0 0, .slice none 0 0, .slice none 0 0]) HBWR.out (Nat.le_refl _))
        clear hdr hrun hT hv hc HS hW hg hfb
        cases hwt : c.wt with
        | false =>
          have HP : Hid (parseO s.data.toList = (zeroMat, 81, 0)) := Lib.hid (parseO_part HE.out HRUN.out (by rw [← HTT.out.wt, hwt]; simp))
          rw [hwt] at z10
          go_upto_region 14 with fail
          go_wp2_with (((with_reducible show wpList _ _ _ (⟨_, .store _ _ _, _, _, _, _⟩ :: _) _ _); refine wpList_store_row rfl 27 (.tmp 2) (.tmp 58) rfl w.heap.size #[.int .i64 0, .int .i64 0, .int .i64 0, .int .i64 0, .string (ByteArray.mk #[]), .slice none 0 0, .slice none 0 0, .slice none 0 0, .slice none 0 0] (by rfl) (by rfl) 27 zeroMV HRB.out (by kernel_rfl) rfl (by kernel_rfl) ?_))
          (try simp only [Exit.inBlock, Exit.then])
          refine bodyPost_ret (results_cell3 rfl _ _ w.heap.size 27 #[.int .i64 0, .int .i64 0, .int .i64 0, .int .i64 0, .string (ByteArray.mk #[]), .slice none 0 0, .slice none 0 0, .slice none 0 0, .slice none 0 0] (0, 0) _ (by rfl) (setRow_heap wr w.heap.size _ _ _ _ HRB.out) Tryd.underlying27 rfl (by kernel_rfl)) rfl ?_
          exact parsed_zero HP.out rfl HZ.out
        | true =>
          rw [hwt] at z10
          cases hlk : c.lk with
          | false =>
            have HP : Hid (parseO s.data.toList = (zeroMat, 81, 0)) := Lib.hid (parseO_part HE.out HRUN.out (by rw [← HTT.out.lk, hlk]; simp))
            rw [hlk] at z11
            go_upto_region 14 with fail
            go_wp2_with (((with_reducible show wpList _ _ _ (⟨_, .store _ _ _, _, _, _, _⟩ :: _) _ _); refine wpList_store_row rfl 27 (.tmp 2) (.tmp 58) rfl w.heap.size #[.int .i64 0, .int .i64 0, .int .i64 0, .int .i64 0, .string (ByteArray.mk #[]), .slice none 0 0, .slice none 0 0, .slice none 0 0, .slice none 0 0] (by rfl) (by rfl) 27 zeroMV HRB.out (by kernel_rfl) rfl (by kernel_rfl) ?_))
            (try simp only [Exit.inBlock, Exit.then])
            refine bodyPost_ret (results_cell3 rfl _ _ w.heap.size 27 #[.int .i64 0, .int .i64 0, .int .i64 0, .int .i64 0, .string (ByteArray.mk #[]), .slice none 0 0, .slice none 0 0, .slice none 0 0, .slice none 0 0] (0, 0) _ (by rfl) (setRow_heap wr w.heap.size _ _ _ _ HRB.out) Tryd.underlying27 rfl (by kernel_rfl)) rfl ?_
            exact parsed_zero HP.out rfl HZ.out
          | true =>
            have HP : Hid (parseO s.data.toList = (p.m, 0, 0)) := Lib.hid (parseO_whole HE.out HRUN.out ⟨by rw [← HTT.out.wt, hwt], by rw [← HTT.out.lk, hlk]⟩)
            rw [hlk] at z11
            obtain ⟨Ad, cd, hvd⟩ := own_form HV.out.at_.ds
            obtain ⟨Ap, cp, hvp⟩ := own_form HV.out.at_.ps
            obtain ⟨Ac, cc, hvc⟩ := own_form HV.out.at_.cs
            obtain ⟨Ae, ce, hve⟩ := own_form HV.out.at_.es
            have z0 : wr.cell? ⟨w1.heap.size + 1, 0, none⟩ = some (.int .i64 c.m.retries) := HC.out 0
            have z1 : wr.cell? ⟨w1.heap.size + 1, 1, none⟩ = some (.int .i64 c.m.wait) := HC.out 1
            have z2 : wr.cell? ⟨w1.heap.size + 1, 2, none⟩ = some (.int .i64 c.m.back) := HC.out 2
            have z3 : wr.cell? ⟨w1.heap.size + 1, 3, none⟩ = some (.int .i64 c.m.cycle) := HC.out 3
            have z4 : wr.cell? ⟨w1.heap.size + 1, 4, none⟩ = some (.string c.m.key) := HC.out 4
            have z5 : wr.cell? ⟨w1.heap.size + 1, 5, none⟩ = some (.slice Ad c.m.devs.length cd) := by rw [← hvd]; exact HC.out 5
            have z6 : wr.cell? ⟨w1.heap.size + 1, 6, none⟩ = some (.slice Ap c.m.pts.length cp) := by rw [← hvp]; exact HC.out 6
            have z7 : wr.cell? ⟨w1.heap.size + 1, 7, none⟩ = some (.slice Ac c.m.css.length cc) := by rw [← hvc]; exact HC.out 7
            have z8 : wr.cell? ⟨w1.heap.size + 1, 8, none⟩ = some (.slice Ae c.m.efs.length ce) := by rw [← hve]; exact HC.out 8
            have HVS := Lib.hid (show c.vd = .slice Ad c.m.devs.length cd ∧ c.vp = .slice Ap c.m.pts.length cp ∧ c.vc = .slice Ac c.m.css.length cc ∧ c.ve = .slice Ae c.m.efs.length ce from ⟨hvd, hvp, hvc, hve⟩)
            have HZ := Lib.hid (setRow_below (cs := #[.int .i64 c.m.retries, .int .i64 c.m.wait, .int .i64 c.m.back, .int .i64 c.m.cycle, .string c.m.key, .slice Ad c.m.devs.length cd, .slice Ap c.m.pts.length cp, .slice Ac c.m.css.length cc, .slice Ae c.m.efs.length ce]) HBWR.out (Nat.le_refl _))
            have HKM := Lib.hid (HV.out.at_.own.keep (grown_setRow wr w.heap.size #[.int .i64 c.m.retries, .int .i64 c.m.wait, .int .i64 c.m.back, .int .i64 c.m.cycle, .string c.m.key, .slice Ad c.m.devs.length cd, .slice Ap c.m.pts.length cp, .slice Ac c.m.css.length cc, .slice Ae c.m.efs.length ce]) HRB.out)
            have HNN := Lib.hid hn1
            clear hvd hvp hvc hve hn1
            go_upto_region 15 with fail
            go_wp2_with (((with_reducible show wpList _ _ _ (⟨_, .store _ _ _, _, _, _, _⟩ :: _) _ _); refine wpList_store_row rfl 27 (.tmp 2) (.tmp 62) rfl w.heap.size #[.int .i64 c.m.retries, .int .i64 c.m.wait, .int .i64 c.m.back, .int .i64 c.m.cycle, .string c.m.key, .slice Ad c.m.devs.length cd, .slice Ap c.m.pts.length cp, .slice Ac c.m.css.length cc, .slice Ae c.m.efs.length ce] (by rfl) (by rfl) 27 zeroMV HRB.out (by kernel_rfl) rfl (by kernel_rfl) ?_))
            (try simp only [Exit.inBlock, Exit.then])
            refine bodyPost_ret (results_cell3 rfl _ _ w.heap.size 27 #[.int .i64 c.m.retries, .int .i64 c.m.wait, .int .i64 c.m.back, .int .i64 c.m.cycle, .string c.m.key, .slice Ad c.m.devs.length cd, .slice Ap c.m.pts.length cp, .slice Ac c.m.css.length cc, .slice Ae c.m.efs.length ce] (0, 0) _ (by rfl) (setRow_heap wr w.heap.size _ _ _ _ HRB.out) Tryd.underlying27 rfl (by kernel_rfl)) rfl ?_
            refine ⟨c.m, c.vd, c.vp, c.vc, c.ve, ?_, ?_, HKM.out, HTT.out.small.mono (by have := HNN.out; omega), HZ.out⟩
            · rw [HP.out, HVS.out.1, HVS.out.2.1, HVS.out.2.2.1, HVS.out.2.2.2]
              rfl
            · rw [HP.out]
              exact HTT.out.m
end Go.Proofs.YtckbdnkonccmiaaDoor
