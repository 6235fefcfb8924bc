/-
  Parts of lines; what a law's text is.
-/
import Derived.Test.YtckbdnkonccmiaaDoorLawMB
import Derived.Test.YtckbdnkonccmiaaDoorMatRef
namespace Go.Proofs.YtckbdnkonccmiaaDoor
open Go.RowKit
theorem rows_sub {α : Type} {w : World} {m : Nat} {f : α → List Value} {l : List α} {b off c : Nat} (h : LawFrame.RowsAt w m f l (.slice (some ⟨b, off, none⟩) l.length c)) (a k : Nat) (hak : a + k ≤ l.length) :
    LawFrame.RowsAt w m f ((l.drop a).take k) (.slice (some ⟨b, off + a * m, none⟩) k (c - a)) := by
  obtain ⟨A, c', e, hc, hx⟩ := h
  injection e with e1 e2 e3
  subst e1 e3
  have hl : ((l.drop a).take k).length = k := by simp; omega
  refine ⟨some ⟨b, off + a * m, none⟩, c - a, by rw [hl], by rw [hl]; omega, fun hne => ?_⟩
  have hne2 : l ≠ [] := by
    intro e
    subst e
    simp at hne
  obtain ⟨b', off', hA, hb, hcell⟩ := hx hne2
  injection hA with hA
  injection hA with e1 e2 _
  subst e1 e2
  refine ⟨b, off + a * m, rfl, hb, fun i y hy d u hu => ?_⟩
  rw [List.getElem?_take] at hy
  split at hy
  · rw [List.getElem?_drop] at hy
    have := hcell (a + i) y hy d u hu
    rw [show off + a * m + i * m + d = off + (a + i) * m + d by rw [Nat.add_mul]; omega]
    exact this
  · cases hy
theorem ls_sub {w : World} {xs : List Ln} {b off c : Nat} (h : LsAt w xs (.slice (some ⟨b, off, none⟩) xs.length c)) (a k : Nat) (hak : a + k ≤ xs.length) : LsAt w ((xs.drop a).take k) (.slice (some ⟨b, off + a * 2, none⟩) k (c - a)) :=
  ⟨rows_sub h.1 a k hak, fun x hx => h.2 x (List.mem_of_mem_drop (List.mem_of_mem_take hx))⟩
theorem ls_place {w : World} {xs : List Ln} {A : Option Addr} {c : Nat} (h : LsAt w xs (.slice A xs.length c)) (hne : 0 < xs.length) : (∃ b off, A = some ⟨b, off, none⟩) ∧ xs.length ≤ c := by
  obtain ⟨A', c', e, hc, hx⟩ := h.1
  injection e with e1 e2 e3
  subst e1 e3
  obtain ⟨b, off, hA, -⟩ := hx (fun e => by rw [e] at hne; simp at hne)
  exact ⟨⟨b, off, hA⟩, hc⟩
/-- the lines of a right matrix' text, as they are told -/
structure ToldM (m : Mat) (xs : List Ln) : Prop where
  bs : xs.map Ln.bs = bytesL (linesOf m)
  few : ∀ x ∈ xs, x.ws.length ≤ 14
  len : xs.length = (linesOf m).length
theorem told_m {m : Mat} {xs : List Ln} (h : xs.map Ln.told = toldL (number 1 (bytesL (linesOf m)))) (hf : ∀ x ∈ xs, x.ws.length ≤ 14) : ToldM m xs := by
  have hb := bs_number h
  refine ⟨hb, hf, ?_⟩
  have := congrArg List.length hb
  rw [List.length_map, bytesL_len] at this
  exact this
theorem ToldM.sub {m : Mat} {xs : List Ln} (h : ToldM m xs) (a k : Nat) : (((xs.drop a).take k).map Ln.bs) = bytesL (((linesOf m).drop a).take k) := by
  rw [List.map_take, List.map_drop, h.bs]
  unfold bytesL
  rw [List.map_take, List.map_drop]
theorem sub_fine {m : Mat} (h : RightP m) (a k : Nat) : FineLs (((linesOf m).drop a).take k) := (lines_fine h).sub (fun _ hx => List.mem_of_mem_drop (List.mem_of_mem_take hx))
theorem fine_size {ls : List (List ByteArray)} (h : FineLs ls) : (printL (bytesL ls)).length ≤ 239 * ls.length := by
  have := fine_len _ h
  rw [bytesL_len] at this
  exact this
theorem one_line_of {m : Mat} {K : Nat} (hK : K < (linesOf m).length) : ∃ ws, (linesOf m)[K]? = some ws ∧ ((linesOf m).drop K).take 1 = [ws] := by
  refine ⟨(linesOf m)[K], List.getElem?_eq_getElem hK, ?_⟩
  rw [List.drop_eq_getElem_cons hK]; rfl
theorem twice_code {m : Mat} (h : RightP m) {kn : Kn} (hk : Knows m.bare kn) {K : Nat} {ws : List ByteArray} (hw : (linesOf m)[K]? = some ws) : (lineF ⟨m.bare, kn, true, true⟩ ws).1 = if K < 2 then 81 else 82 := by
  unfold linesOf at hw
  rcases (by omega : K = 0 ∨ K = 1 ∨ 2 ≤ K) with rfl | rfl | h2
  · injection hw with hw
    subst hw
    exact tw_watch _ m rfl
  · injection hw with hw
    subst hw
    exact tw_key _ m rfl
  · rw [if_neg (by omega)]
    obtain ⟨j, rfl⟩ : ∃ j, K = j + 2 := ⟨K - 2, by omega⟩
    have : (tailOf m)[j]? = some ws := hw
    exact tail_again h kn hk ws (List.mem_of_getElem? this)
theorem still_print {w : World} {xs : List Ln} {v : Value} {ls : List (List ByteArray)} {P : ByteArray} (hb : xs.map Ln.bs = bytesL ls) (hP : P = toB (printL (bytesL ls))) (hn : xs.length ≤ 1000000) (hws : ∀ x ∈ xs, x.ws.length ≤ 1000000) (hsz : (printL (bytesL ls)).length ≤ 1000000) (h : LsAt w xs v) :
    Calls Tryd.prog 15 #[v] w fun e w' => e = .returned (.string P) ∧ w' = w := by
  refine (rprint_any w xs v h hn hws (by rw [hb]; exact hsz)).mono ?_
  rintro e w' ⟨rfl, rfl⟩
  exact ⟨by rw [hb, hP], rfl⟩
theorem lit_lns (w : World) (xs : List Ln) (hn : xs.length ≤ 1000000) (hs : ∀ x ∈ xs, StrsAt w x.ws x.v ∧ x.ws.length ≤ 1125899906842624) : LsAt (w.alloc (.cells (xs.flatMap Ln.cells).toArray 50)) xs (.slice (some ⟨w.heap.size, 0, none⟩) xs.length xs.length) := by
  have hl : (xs.flatMap Ln.cells).length = xs.length * 2 := by
    induction xs with
    | nil => rfl
    | cons x xs ih => rw [List.flatMap_cons, List.length_append, ih (by simp at hn; omega) (fun y hy => hs y (by simp [hy]))]; simp [Ln.cells]; omega
  refine ⟨LawFrame.RowsAt.of_own (base := w.heap.size) (e := 50) (n := xs.length) Ln.cells_len (by decide) ?_, fun x hx => ⟨LawFrame.RowsAt.below (hs x hx).1 ((Below.refl _ _).alloc (Nat.le_refl _) _), (hs x hx).2⟩⟩
  exact World.ownsRow_lit (base := w.heap.size) (e := 50) (size := 2) w (xs.flatMap Ln.cells).toArray xs.length (Nat.le_refl _) (by simp only [maxLen]; omega) (by simp [hl])
theorem at_bs {m : Mat} {xs : List Ln} (h : ToldM m xs) {k : Nat} {x : Ln} {ws : List ByteArray} (hx : xs[k]? = some x) (hw : (linesOf m)[k]? = some ws) : x.bs = ws.map (fun s => s.data.toList) := by
  have e := congrArg (·[k]?) h.bs
  unfold bytesL at e
  simp only [List.getElem?_map, hx, hw, Option.map_some, Option.some.injEq] at e
  exact e
theorem ls_cells {w : World} {xs : List Ln} {b off n c : Nat} (h : LsAt w xs (.slice (some ⟨b, off, none⟩) n c)) (hn : n = xs.length) {k : Nat} {x : Ln} (hx : xs[k]? = some x) : w.cell? ⟨b, off + k * 2, none⟩ = some (.int .i64 x.no) ∧ w.cell? ⟨b, off + k * 2 + 1, none⟩ = some x.v := by
  subst hn
  obtain ⟨b', off', e, -, hc⟩ := row_at h.1 hx
  injection e with e
  injection e with e1 e2 _
  subst e1 e2
  exact ⟨by simpa using hc 0 _ rfl, hc 1 _ rfl⟩
theorem ls_three {w : World} {xs : List Ln} {b off n c : Nat} (h : LsAt w xs (.slice (some ⟨b, off, none⟩) n c)) (hn : n = xs.length) {x0 x1 x2 : Ln} (h0 : xs[0]? = some x0) (h1 : xs[1]? = some x1) (h2 : xs[2]? = some x2) :
    w.cell? ⟨b, off, none⟩ = some (.int .i64 x0.no) ∧ w.cell? ⟨b, off + 1, none⟩ = some x0.v ∧ w.cell? ⟨b, off + 2, none⟩ = some (.int .i64 x1.no) ∧ w.cell? ⟨b, off + 2 + 1, none⟩ = some x1.v ∧ w.cell? ⟨b, off + 4, none⟩ = some (.int .i64 x2.no) ∧ w.cell? ⟨b, off + 4 + 1, none⟩ = some x2.v := by
  have a0 := ls_cells h hn h0
  have a1 := ls_cells h hn h1
  have a2 := ls_cells h hn h2
  simp only [Nat.zero_mul, Nat.one_mul, Nat.add_zero] at a0 a1 a2
  exact ⟨a0.1, a0.2, a1.1, a1.2, a2.1, a2.2⟩
theorem line0 (m : Mat) : (linesOf m)[0]? = some (watchW m) := rfl
theorem line1 (m : Mat) : (linesOf m)[1]? = some (keyW m) := rfl
theorem drop2 (m : Mat) : (linesOf m).drop 2 = tailOf m := rfl
theorem drop3 (m : Mat) : (linesOf m).drop 3 = (tailOf m).drop 1 := rfl
theorem print_len_perm {a b c : List (List ByteArray)} : (printL (bytesL (a ++ b ++ c))).length = (printL (bytesL (b ++ a ++ c))).length := by
  simp only [bytesL_append, printL_append, List.length_append]
  omega
theorem parse_swapped {m : Mat} (h : RightP m) (hl : (printL (bytesL (linesOf m))).length ≤ 4096) : parseO (printL (bytesL ([keyW m, watchW m] ++ tailOf m))) = (m.bare, 0, 0) := by
  obtain ⟨kn, hr⟩ := run_whole2 h
  have hf : FineLs ([keyW m, watchW m] ++ tailOf m) := (lines_fine h).sub (fun x hx => by
    unfold linesOf
    simp only [List.mem_append, List.mem_cons, List.not_mem_nil, or_false] at hx ⊢
    rcases hx with (h | h) | h
    · exact .inl (.inr h)
    · exact .inl (.inl h)
    · exact .inr h)
  rw [parse_print hf hr (by
    have e := @print_len_perm [keyW m] [watchW m] (tailOf m)
    have e2 : (printL (bytesL ([watchW m] ++ [keyW m] ++ tailOf m))).length ≤ 4096 := hl
    rw [← e] at e2
    exact e2), if_pos ⟨rfl, rfl⟩]
theorem first_dev {m : Mat} (h : RightP m) (hn : 3 ≤ (linesOf m).length) : ∃ d r, m.devs = d :: r ∧ (linesOf m)[2]? = some (devW d) ∧ tailOf m = devW d :: (tailOf m).drop 1 := by
  cases e : m.devs with
  | nil =>
    have h1 := no_devs h e
    unfold linesOf at hn
    rw [h1] at hn
    simp at hn
  | cons d r =>
    have h1 : tailOf m = devW d :: (tailOf m).drop 1 := by unfold tailOf; rw [e]; rfl
    refine ⟨d, r, rfl, ?_, h1⟩
    unfold linesOf
    rw [h1]; rfl
theorem parse_first {m : Mat} (h : RightP m) {d : Dev} {r : List Dev} (hd : m.devs = d :: r) (ht : tailOf m = devW d :: (tailOf m).drop 1) (hl : (printL (bytesL (linesOf m))).length ≤ 4096) : parseO (printL (bytesL ([devW d, watchW m, keyW m] ++ (tailOf m).drop 1))) = (m.bare, 0, 0) := by
  obtain ⟨kn, hr⟩ := run_whole3 h hd
  have hf : FineLs ([devW d, watchW m, keyW m] ++ (tailOf m).drop 1) := (lines_fine h).sub (fun x hx => by
    unfold linesOf
    rw [ht]
    simp only [List.mem_append, List.mem_cons, List.not_mem_nil, or_false] at hx ⊢
    rcases hx with (h | h | h) | h
    · exact .inr (.inl h)
    · exact .inl (.inl h)
    · exact .inl (.inr h)
    · exact .inr (.inr h))
  rw [parse_print hf hr (by
    have e := @print_len_perm [devW d] [watchW m, keyW m] ((tailOf m).drop 1)
    have e2 : (printL (bytesL ([watchW m, keyW m] ++ [devW d] ++ (tailOf m).drop 1))).length ≤ 4096 := by
      have e3 : [watchW m, keyW m] ++ [devW d] ++ (tailOf m).drop 1 = linesOf m := by
        unfold linesOf
        rw [List.append_assoc]
        congr 1
        exact ht.symm
      rw [e3]; exact hl
    rw [← e] at e2
    exact e2), if_pos ⟨rfl, rfl⟩]
theorem ls_none {w : World} {A : Option Addr} {c : Nat} : LsAt w [] (.slice A 0 c) := ⟨⟨A, c, rfl, Nat.zero_le _, fun h => absurd rfl h⟩, fun x hx => (by cases hx)⟩
theorem un_drew {W wx : World} (h : Below (W.drew).heap.size W.drew wx) : Below W.heap.size W wx := ⟨h.os, h.tape, h.output, h.size, h.block⟩
theorem ls_drew {w : World} {xs : List Ln} {v : Value} (h : LsAt w xs v) : LsAt w.drew xs v := h
theorem tab_drew {w : World} (h : Tab w) : Tab w.drew := h
theorem made_below {W wx : World} {cs : Array Value} {t : TypeId} (h : Below ((W.alloc (.cells cs t)).drew).heap.size ((W.alloc (.cells cs t)).drew) wx) : Below (W.heap.size + 1) (W.alloc (.cells cs t)) wx := by
  have e : ((W.alloc (.cells cs t)).drew).heap.size = W.heap.size + 1 := by simp
  rw [e] at h
  exact ⟨h.os, h.tape, h.output, h.size, h.block⟩
/-- what a region keeps that has nothing to keep -/
def AnyW (w : World) : Prop := w.heap.size = w.heap.size
theorem anyW (w : World) : AnyW w := rfl
/-- a matrix that reads as m lies in block g -/
def GotM (m : Mat) (g : Nat) (w : World) : Prop := ∃ (x : Mat) (Ad Ap Ac Ae : Option Addr) (cd cp cc ce : Nat), x.bare = m.bare ∧ SmallM x 100000 ∧ MatAt w x (.slice Ad x.devs.length cd) (.slice Ap x.pts.length cp) (.slice Ac x.css.length cc) (.slice Ae x.efs.length ce) ∧
  Words.Blk w g 27 #[.int .i64 x.retries, .int .i64 x.wait, .int .i64 x.back, .int .i64 x.cycle, .string x.key, .slice Ad x.devs.length cd, .slice Ap x.pts.length cp, .slice Ac x.css.length cc, .slice Ae x.efs.length ce]
theorem GotM.below {m : Mat} {g : Nat} {w w' : World} (h : GotM m g w) (hb : Below w.heap.size w w') : GotM m g w' := by
  obtain ⟨x, Ad, Ap, Ac, Ae, cd, cp, cc, ce, h1, h2, h3, h4⟩ := h
  exact ⟨x, Ad, Ap, Ac, Ae, cd, cp, cc, ce, h1, h2, h3.below hb, h4.below hb h4.lt⟩
theorem stored9 {wx : World} {g : Nat} (h : Words.Blk wx g 27 zeroMV) (u0 u1 u2 u3 u4 u5 u6 u7 u8 : Value) :
    Words.Blk (((((((((wx.setCell ⟨g, 0, none⟩ u0).setCell ⟨g, 1, none⟩ u1).setCell ⟨g, 2, none⟩ u2).setCell ⟨g, 3, none⟩ u3).setCell ⟨g, 4, none⟩ u4).setCell ⟨g, 5, none⟩ u5).setCell ⟨g, 6, none⟩ u6).setCell ⟨g, 7, none⟩ u7).setCell ⟨g, 8, none⟩ u8) g 27 #[u0, u1, u2, u3, u4, u5, u6, u7, u8] ∧
    wx.grownBy (((((((((wx.setCell ⟨g, 0, none⟩ u0).setCell ⟨g, 1, none⟩ u1).setCell ⟨g, 2, none⟩ u2).setCell ⟨g, 3, none⟩ u3).setCell ⟨g, 4, none⟩ u4).setCell ⟨g, 5, none⟩ u5).setCell ⟨g, 6, none⟩ u6).setCell ⟨g, 7, none⟩ u7).setCell ⟨g, 8, none⟩ u8) (some g) := by
  have b0 : Words.Blk (wx.setCell ⟨g, 0, none⟩ u0) g 27 #[u0, .int .i64 0, .int .i64 0, .int .i64 0, .string (ByteArray.mk #[]), .slice none 0 0, .slice none 0 0, .slice none 0 0, .slice none 0 0] := h.set_ 0 u0
  have g0 := grown_set wx g 0 u0
  have b1 : Words.Blk ((wx.setCell ⟨g, 0, none⟩ u0).setCell ⟨g, 1, none⟩ u1) g 27 #[u0, u1, .int .i64 0, .int .i64 0, .string (ByteArray.mk #[]), .slice none 0 0, .slice none 0 0, .slice none 0 0, .slice none 0 0] := b0.set_ 1 u1
  have g1 := grown_trans g0 (grown_set _ g 1 u1)
  have b2 : Words.Blk (((wx.setCell ⟨g, 0, none⟩ u0).setCell ⟨g, 1, none⟩ u1).setCell ⟨g, 2, none⟩ u2) g 27 #[u0, u1, u2, .int .i64 0, .string (ByteArray.mk #[]), .slice none 0 0, .slice none 0 0, .slice none 0 0, .slice none 0 0] := b1.set_ 2 u2
  have g2 := grown_trans g1 (grown_set _ g 2 u2)
  have b3 : Words.Blk ((((wx.setCell ⟨g, 0, none⟩ u0).setCell ⟨g, 1, none⟩ u1).setCell ⟨g, 2, none⟩ u2).setCell ⟨g, 3, none⟩ u3) g 27 #[u0, u1, u2, u3, .string (ByteArray.mk #[]), .slice none 0 0, .slice none 0 0, .slice none 0 0, .slice none 0 0] := b2.set_ 3 u3
  have g3 := grown_trans g2 (grown_set _ g 3 u3)
  have b4 : Words.Blk (((((wx.setCell ⟨g, 0, none⟩ u0).setCell ⟨g, 1, none⟩ u1).setCell ⟨g, 2, none⟩ u2).setCell ⟨g, 3, none⟩ u3).setCell ⟨g, 4, none⟩ u4) g 27 #[u0, u1, u2, u3, u4, .slice none 0 0, .slice none 0 0, .slice none 0 0, .slice none 0 0] := b3.set_ 4 u4
  have g4 := grown_trans g3 (grown_set _ g 4 u4)
  have b5 : Words.Blk ((((((wx.setCell ⟨g, 0, none⟩ u0).setCell ⟨g, 1, none⟩ u1).setCell ⟨g, 2, none⟩ u2).setCell ⟨g, 3, none⟩ u3).setCell ⟨g, 4, none⟩ u4).setCell ⟨g, 5, none⟩ u5) g 27 #[u0, u1, u2, u3, u4, u5, .slice none 0 0, .slice none 0 0, .slice none 0 0] := b4.set_ 5 u5
  have g5 := grown_trans g4 (grown_set _ g 5 u5)
  have b6 : Words.Blk (((((((wx.setCell ⟨g, 0, none⟩ u0).setCell ⟨g, 1, none⟩ u1).setCell ⟨g, 2, none⟩ u2).setCell ⟨g, 3, none⟩ u3).setCell ⟨g, 4, none⟩ u4).setCell ⟨g, 5, none⟩ u5).setCell ⟨g, 6, none⟩ u6) g 27 #[u0, u1, u2, u3, u4, u5, u6, .slice none 0 0, .slice none 0 0] := b5.set_ 6 u6
  have g6 := grown_trans g5 (grown_set _ g 6 u6)
  have b7 : Words.Blk ((((((((wx.setCell ⟨g, 0, none⟩ u0).setCell ⟨g, 1, none⟩ u1).setCell ⟨g, 2, none⟩ u2).setCell ⟨g, 3, none⟩ u3).setCell ⟨g, 4, none⟩ u4).setCell ⟨g, 5, none⟩ u5).setCell ⟨g, 6, none⟩ u6).setCell ⟨g, 7, none⟩ u7) g 27 #[u0, u1, u2, u3, u4, u5, u6, u7, .slice none 0 0] := b6.set_ 7 u7
  have g7 := grown_trans g6 (grown_set _ g 7 u7)
  have b8 : Words.Blk (((((((((wx.setCell ⟨g, 0, none⟩ u0).setCell ⟨g, 1, none⟩ u1).setCell ⟨g, 2, none⟩ u2).setCell ⟨g, 3, none⟩ u3).setCell ⟨g, 4, none⟩ u4).setCell ⟨g, 5, none⟩ u5).setCell ⟨g, 6, none⟩ u6).setCell ⟨g, 7, none⟩ u7).setCell ⟨g, 8, none⟩ u8) g 27 #[u0, u1, u2, u3, u4, u5, u6, u7, u8] := b7.set_ 8 u8
  have g8 := grown_trans g7 (grown_set _ g 8 u8)
  exact ⟨b8, g8⟩
/-- .. stored into a block that was made ahead -/
theorem got_stored {W wx : World} {m x : Mat} {Ad Ap Ac Ae : Option Addr} {cd cp cc ce : Nat} (hb : Below (W.heap.size + 1) (W.alloc (.cells zeroMV 27)) wx) (h1 : x.bare = m.bare) (h2 : SmallM x 100000) (h3 : OwnMat wx x (.slice Ad x.devs.length cd) (.slice Ap x.pts.length cp) (.slice Ac x.css.length cc) (.slice Ae x.efs.length ce)) {WC : World}
    (hc : WC = (((((((((wx.setCell ⟨W.heap.size, 0, none⟩ (.int .i64 x.retries)).setCell ⟨W.heap.size, 1, none⟩ (.int .i64 x.wait)).setCell ⟨W.heap.size, 2, none⟩ (.int .i64 x.back)).setCell ⟨W.heap.size, 3, none⟩ (.int .i64 x.cycle)).setCell ⟨W.heap.size, 4, none⟩ (.string x.key)).setCell ⟨W.heap.size, 5, none⟩ (.slice Ad x.devs.length cd)).setCell ⟨W.heap.size, 6, none⟩ (.slice Ap x.pts.length cp)).setCell ⟨W.heap.size, 7, none⟩ (.slice Ac x.css.length cc)).setCell ⟨W.heap.size, 8, none⟩ (.slice Ae x.efs.length ce))) :
    GotM m W.heap.size WC ∧ Below W.heap.size W WC := by
  have hk : Words.Blk wx W.heap.size 27 zeroMV := (Words.Blk.new W _ _).below (by simpa using hb) (by simp)
  have hw : Below W.heap.size W wx := ((Below.refl _ _).alloc (Nat.le_refl _) _).trans (hb.mono (Nat.le_succ _))
  obtain ⟨k1, k2⟩ := stored9 hk (.int .i64 x.retries) (.int .i64 x.wait) (.int .i64 x.back) (.int .i64 x.cycle) (.string x.key) (.slice Ad x.devs.length cd) (.slice Ap x.pts.length cp) (.slice Ac x.css.length cc) (.slice Ae x.efs.length ce)
  rw [← hc] at k1 k2
  exact ⟨⟨x, Ad, Ap, Ac, Ae, cd, cp, cc, ce, h1, h2, (h3.keep k2 hk).mat, k1⟩, hw.grown k2 hw.size (fun k hk => by injection hk with hk; omega)⟩
/-- the text with one of its lines once more -/
theorem parse_twice {m : Mat} (h : RightP m) {K : Nat} {ws : List ByteArray} (hw : (linesOf m)[K]? = some ws) (hl : (printL (bytesL (linesOf m))).length ≤ 3500) : parseO (printL (bytesL (linesOf m ++ [ws]))) = (zeroMat, if K < 2 then 81 else 82, ((linesOf m).length : Int) + 1) := by
  obtain ⟨kn, hr, hk⟩ := run_whole h
  have hfw : FineLs [ws] := (lines_fine h).sub (fun x hx => by
    obtain rfl := List.mem_singleton.1 hx
    exact List.mem_of_getElem? hw)
  have h1 := fine_size hfw
  refine parse_more (lines_fine h) hfw hr (twice_code h hk hw) (by split <;> decide) ?_
  rw [bytesL_append, printL_append, List.length_append]
  simp only [List.length_singleton] at h1
  omega
end Go.Proofs.YtckbdnkonccmiaaDoor
