/-
  LatchPlays: calls of latches of any groups answer as the document says; so do all latches, and the first one of each group. Where the arguments hold at most 1048576 values and letters (the second form).
-/
import Derived.Test.YtcaobjmngdlklaaLatchLoads
import Derived.Deep.CutBlock
namespace Go.Proofs.Ytcaobjmngdlklaa
open Go.RowKit Go.ChangeShapes Go.WideShapes
/-- the latches, and the document's -/
structure PL (gs : List Int) (B gx : Nat) (vx : Value) (x1 x2 gr N : Nat) (s t : LS) (w w' : World) : Prop where
  x : LAt B gx vx x1 x2 N s w'
  r : RAt B gr gs (view t) w'
  gs : grps s = gs ∧ grps t = gs
  inv : Inv s ∧ Inv t
  below : Below B w w' ∧ B ≤ w'.heap.size
section
variable {gs : List Int} {B gx x1 x2 gr N : Nat} {vx : Value} {s t : LS} {w w1 : World}
theorem PL.lens (h : PL gs B gx vx x1 x2 gr N s t w w1) : s.l.length = gs.length ∧ t.l.length = gs.length := ⟨by rw [← h.gs.1]; simp [grps], by rw [← h.gs.2]; simp [grps]⟩
theorem PL.size (h : PL gs B gx vx x1 x2 gr N s t w w1) {w' : World} (hb : Below w1.heap.size w1 w') : PL gs B gx vx x1 x2 gr N s t w w' :=
  ⟨h.x.below hb, h.r.below hb, h.gs, h.inv, h.below.1.trans (hb.mono h.below.2), Nat.le_trans h.below.2 hb.size⟩
theorem PL.mono (h : PL gs B gx vx x1 x2 gr N s t w w1) {N' : Nat} (hN : N ≤ N') : PL gs B gx vx x1 x2 gr N' s t w w1 := ⟨h.x.mono hN, h.r, h.gs, h.inv, h.below⟩
theorem keeps_roth {B : Nat} {w w' : World} (h : ROth B w w') : Keeps w w' := fun k cs hk => h.block k _ hk (fun cs' z e => by injection e with _ e; exact absurd e (by decide)) (fun cs' z e => by injection e with _ e; exact absurd e (by decide))
theorem px_trip (h : PL gs B gx vx x1 x2 gr N s t w w1) (hg : gs.length ≤ 60) (hN : N < 1000000) (i now : Int) : Calls Try.prog 14 #[.pointer (some ⟨gx, 0, none⟩), .int .i64 i, .int .i64 now] w1 fun e w' => e = .returned (.bool (trip s i now).1) ∧ PL gs B gx vx x1 x2 gr (N + 2) (trip s i now).2 t w w' ∧ Keeps w1 w' := by
  refine (trip_any B gx vx x1 x2 N s w1 h.x hN h.inv.1 (by rw [h.lens.1]; omega) i now).mono ?_
  rintro e w' ⟨h1, h2, h3⟩
  exact ⟨h1, ⟨h2, h.r.foot h.x h3, ⟨by rw [grps_trip]; exact h.gs.1, h.gs.2⟩, ⟨inv_trip h.inv.1 i now, h.inv.2⟩, h.below.1.trans (h.x.foot h3 h.below.2), Nat.le_trans h.below.2 h3.size⟩, fun k cs hk => h.x.far h3 hk (by decide) (by decide)⟩
theorem px_reset (h : PL gs B gx vx x1 x2 gr N s t w w1) (hg : gs.length ≤ 60) (hN : N < 1000000) (i : Int) : Calls Try.prog 10 #[.pointer (some ⟨gx, 0, none⟩), .int .i64 i] w1 fun e w' => e = .returned (.bool (reset s i).1) ∧ PL gs B gx vx x1 x2 gr (N + 2) (reset s i).2 t w w' ∧ Keeps w1 w' := by
  refine (reset_any B gx vx x1 x2 N s w1 h.x hN h.inv.1 (by rw [h.lens.1]; omega) i).mono ?_
  rintro e w' ⟨h1, h2, h3⟩
  exact ⟨h1, ⟨h2, h.r.foot h.x h3, ⟨by rw [grps_reset]; exact h.gs.1, h.gs.2⟩, ⟨inv_reset h.inv.1 i, h.inv.2⟩, h.below.1.trans (h.x.foot h3 h.below.2), Nat.le_trans h.below.2 h3.size⟩, fun k cs hk => h.x.far h3 hk (by decide) (by decide)⟩
theorem pr_trip (h : PL gs B gx vx x1 x2 gr N s t w w1) (hg : gs.length ≤ 60) (i now : Int) : Calls Try.prog 15 #[.pointer (some ⟨gr, 0, none⟩), .int .i64 i, .int .i64 now] w1 fun e w' => e = .returned (.bool (trip t i now).1) ∧ PL gs B gx vx x1 x2 gr N s (trip t i now).2 w w' ∧ Keeps w1 w' := by
  refine (RTrip_sync B gr t w1 (by rw [h.gs.2]; exact h.r) h.inv.2 (by rw [h.lens.2]; omega) i now).mono ?_
  rintro e w' ⟨h1, h2, h3⟩
  rw [grps_trip, h.gs.2] at h2
  exact ⟨h1, ⟨h.x.roth h3, h2, ⟨h.gs.1, by rw [grps_trip]; exact h.gs.2⟩, ⟨h.inv.1, inv_trip h.inv.2 i now⟩, h.below.1.trans h3.below, Nat.le_trans h.below.2 h3.below.size⟩, keeps_roth h3⟩
theorem pr_reset (h : PL gs B gx vx x1 x2 gr N s t w w1) (i : Int) : Calls Try.prog 11 #[.pointer (some ⟨gr, 0, none⟩), .int .i64 i] w1 fun e w' => e = .returned (.bool (reset t i).1) ∧ PL gs B gx vx x1 x2 gr N s (reset t i).2 w w' ∧ Keeps w1 w' := by
  refine (RReset_sync B gr t w1 (by rw [h.gs.2]; exact h.r) h.below.2 i).mono ?_
  rintro e w' ⟨h1, h2, h3⟩
  rw [grps_reset, h.gs.2] at h2
  exact ⟨h1, ⟨h.x.roth h3, h2, ⟨h.gs.1, by rw [grps_reset]; exact h.gs.2⟩, ⟨h.inv.1, inv_reset h.inv.2 i⟩, h.below.1.trans h3.below, Nat.le_trans h.below.2 h3.below.size⟩, keeps_roth h3⟩
/-- the program's Load -/
def PXLoad (gs : List Int) (l : List Lat) (B gx : Nat) (vx : Value) (x1 x2 gr N : Nat) (s : LS) (w w1 : World) (e : Ending) (w' : World) : Prop :=
  Keeps w1 w' ∧ ((e = .returned (.bool true) ∧ Valid gs l ∧ ∃ s' y1 y2, view s' = l ∧ Inv s' ∧ grps s' = gs ∧ PL gs B gx vx y1 y2 gr (N + 60) s' s w w') ∨ (e = .returned (.bool false) ∧ ¬ Valid gs l ∧ PL gs B gx vx x1 x2 gr N s s w w'))
theorem px_load (h : PL gs B gx vx x1 x2 gr N s s w w1) (hg : gs.length ≤ 60) {l : List Lat} {v2 : Value} (hl : LatsAt w1 l v2) (hap : ∀ b off c, v2 = .slice (some ⟨b, off, none⟩) l.length c → l ≠ [] → b ≠ gx ∧ vx.ownBlock ≠ some b ∧ b ≠ x1 ∧ b ≠ x2) :
    Calls Try.prog 12 #[.pointer (some ⟨gx, 0, none⟩), v2] w1 (PXLoad gs l B gx vx x1 x2 gr N s w w1) := by
  refine (Load_any B gx vx x1 x2 N s w1 h.x h.inv.1 l v2 hl hap h.below.2 (by rw [h.lens.1]; omega)).mono ?_
  rintro e w' (⟨he, hv, f, c, y1, y2, hf, hc, hy, hft⟩ | ⟨he, hv, hy, hft⟩)
  · rw [h.gs.1] at hv hf hc hy
    have hll : l.length ≤ 60 := by have := hv.1; omega
    refine ⟨fun k cs hk => h.x.far hft hk (by decide) (by decide), .inl ⟨he, hv, loaded gs l f c, y1, y2, view_loaded hv hf, inv_loaded hv hf hc, grps_loaded hv.1, ⟨hy.mono (by omega), h.r.foot h.x hft, ⟨grps_loaded hv.1, h.gs.2⟩, ⟨inv_loaded hv hf hc, h.inv.2⟩, h.below.1.trans (h.x.foot hft h.below.2), Nat.le_trans h.below.2 hft.size⟩⟩⟩
  · rw [h.gs.1] at hv
    exact ⟨fun k cs hk => h.x.far hft hk (by decide) (by decide), .inr ⟨he, hv, ⟨hy, h.r.foot h.x hft, h.gs, h.inv, h.below.1.trans (h.x.foot hft h.below.2), Nat.le_trans h.below.2 hft.size⟩⟩⟩
/-- the document's Load, behind the program's -/
theorem pr_load_yes (h : PL gs B gx vx x1 x2 gr N s t w w1) (hg : gs.length ≤ 60) {l : List Lat} {v2 : Value} (hl : LatsAt w1 l v2) (hv : Valid gs l) (hvw : view s = l) :
    Calls Try.prog 13 #[.pointer (some ⟨gr, 0, none⟩), v2] w1 fun e w' => e = .returned (.bool true) ∧ PL gs B gx vx x1 x2 gr N s s w w' ∧ Keeps w1 w' := by
  refine (RLoad_any B gr gs (view t) w1 h.r (by rw [view_len]; exact h.lens.2) (by rw [view_len, h.lens.2]; omega) l v2 hl h.below.2).mono ?_
  rintro e w' (⟨he, _, hr, ho⟩ | ⟨_, hnv, _⟩)
  · rw [← hvw] at hr
    exact ⟨he, ⟨h.x.roth ho, hr, ⟨h.gs.1, h.gs.1⟩, ⟨h.inv.1, h.inv.1⟩, h.below.1.trans ho.below, Nat.le_trans h.below.2 ho.below.size⟩, keeps_roth ho⟩
  · exact absurd hv hnv
theorem pr_load_no (h : PL gs B gx vx x1 x2 gr N s t w w1) (hg : gs.length ≤ 60) {l : List Lat} {v2 : Value} (hl : LatsAt w1 l v2) (hv : ¬ Valid gs l) :
    Calls Try.prog 13 #[.pointer (some ⟨gr, 0, none⟩), v2] w1 fun e w' => e = .returned (.bool false) ∧ PL gs B gx vx x1 x2 gr N s t w w' ∧ Keeps w1 w' := by
  refine (RLoad_any B gr gs (view t) w1 h.r (by rw [view_len]; exact h.lens.2) (by rw [view_len, h.lens.2]; omega) l v2 hl h.below.2).mono ?_
  rintro e w' (⟨_, hv', _⟩ | ⟨he, _, hr, ho⟩)
  · exact absurd hv' hv
  · exact ⟨he, ⟨h.x.roth ho, hr, h.gs, h.inv, h.below.1.trans ho.below, Nat.le_trans h.below.2 ho.below.size⟩, keeps_roth ho⟩
theorem px_at (h : PL gs B gx vx x1 x2 gr N s t w w1) (i : Int) : Calls Try.prog 16 #[.pointer (some ⟨gx, 0, none⟩), .int .i64 i] w1 fun e w' => e = .returned (latV (atL s i)) ∧ PL gs B gx vx x1 x2 gr N s t w w' ∧ Below w1.heap.size w1 w' := by
  refine (At_any B gx vx x1 x2 N s w1 h.x i).mono ?_
  rintro e w' ⟨rfl, hb⟩
  exact ⟨rfl, h.size hb, hb⟩
theorem pr_at (h : PL gs B gx vx x1 x2 gr N s t w w1) (i : Int) : Calls Try.prog 17 #[.pointer (some ⟨gr, 0, none⟩), .int .i64 i] w1 fun e w' => e = .returned (latV (atL t i)) ∧ PL gs B gx vx x1 x2 gr N s t w w' ∧ Below w1.heap.size w1 w' := by
  refine (RAt_any B gr gs (view t) w1 h.r i).mono ?_
  rintro e w' ⟨rfl, hb⟩
  rw [atL_ratL]
  exact ⟨rfl, h.size hb, hb⟩
theorem px_all (h : PL gs B gx vx x1 x2 gr N s t w w1) (hg : gs.length ≤ 60) : Calls Try.prog 19 #[.pointer (some ⟨gx, 0, none⟩)] w1 fun e w' => (∃ A c, e = .returned (.slice A (view s).length c) ∧ LatsAt w' (view s) (.slice A (view s).length c)) ∧ PL gs B gx vx x1 x2 gr N s t w w' ∧ Below w1.heap.size w1 w' := by
  refine (All_any B gx vx x1 x2 N s w1 h.x (by rw [h.lens.1]; omega)).mono ?_
  rintro e w' ⟨v', rfl, hr, hb⟩
  obtain ⟨A, c, rfl⟩ := own_form hr
  exact ⟨⟨A, c, rfl, lats_row hr⟩, h.size hb, hb⟩
theorem pr_all (h : PL gs B gx vx x1 x2 gr N s t w w1) (hg : gs.length ≤ 60) : Calls Try.prog 20 #[.pointer (some ⟨gr, 0, none⟩)] w1 fun e w' => (∃ A c, e = .returned (.slice A (view t).length c) ∧ LatsAt w' (view t) (.slice A (view t).length c)) ∧ PL gs B gx vx x1 x2 gr N s t w w' ∧ Below w1.heap.size w1 w' := by
  refine (RAll_any B gr gs (view t) w1 h.r (by rw [view_len, h.lens.2]; omega)).mono ?_
  rintro e w' ⟨v', rfl, hr, hb⟩
  obtain ⟨A, c, rfl⟩ := own_form hr
  exact ⟨⟨A, c, rfl, lats_row hr⟩, h.size hb, hb⟩
theorem p_same (h : PL gs B gx vx x1 x2 gr N s t w w1) {l : List Lat} {v1 v2 : Value} (h1 : LatsAt w1 l v1) (h2 : LatsAt w1 l v2) (hl : l.length ≤ 1000000) : Calls Try.prog 18 #[v1, v2] w1 fun e w' => e = .returned (.bool true) ∧ PL gs B gx vx x1 x2 gr N s t w w' ∧ Below w1.heap.size w1 w' := by
  refine (Same_any l v1 v2 w1 h1 h2 hl).mono ?_
  rintro e w' ⟨rfl, hb⟩
  exact ⟨rfl, h.size hb, hb⟩
theorem px_first (h : PL gs B gx vx x1 x2 gr N s t w w1) (g : Int) (hg : Fit64 g) : Calls Try.prog 21 #[.pointer (some ⟨gx, 0, none⟩), .int .i64 g] w1 fun e w' => e = .returned (.tuple #[.int .i64 ((s.first g).getD 0), .bool (s.first g).isSome]) ∧ w1 = w' := First_any B gx vx x1 x2 N s w1 h.x g hg
theorem pr_first (h : PL gs B gx vx x1 x2 gr N s t w w1) (hg : gs.length ≤ 60) (g : Int) : Calls Try.prog 22 #[.pointer (some ⟨gr, 0, none⟩), .int .i64 g] w1 fun e w' => e = .returned (.tuple #[.int .i64 ((t.first g).getD 0), .bool (t.first g).isSome]) ∧ w1 = w' := RFirst_sync B gr t w1 (by rw [h.gs.2]; exact h.r) h.inv.2 (by rw [h.lens.2]; omega) g
end
theorem RVt.low {B B' g : Nat} {gs : List Int} {L : List Lat} {vG vL : Value} {w : World} (h : RVt B g gs L vG vL w) (hB : B' ≤ B) : RVt B' g gs L vG vL w := by
  refine ⟨h.1, ⟨h.2.1.1, ?_⟩, ⟨h.2.2.1.1, ?_⟩, Nat.le_trans hB h.2.2.2⟩
  · rcases h.2.1.2 with hn | ⟨b, cap, cur, rfl, hb, rest⟩
    · exact .inl hn
    · exact .inr ⟨b, cap, cur, rfl, Nat.le_trans hB hb, rest⟩
  · rcases h.2.2.1.2 with hn | ⟨b, cap, cur, rfl, hb, rest⟩
    · exact .inl hn
    · exact .inr ⟨b, cap, cur, rfl, Nat.le_trans hB hb, rest⟩
theorem zeros_view (gs : List Int) : zeros gs.length = view (fresh gs) := by
  rw [view_fresh, zeros]
  induction gs with
  | nil => rfl
  | cons x r ih => simp [List.replicate_succ, ih]
/-- .. and a block beside -/
def PQ (gs : List Int) (B gx : Nat) (vx : Value) (x1 x2 gr N : Nat) (s : LS) (q : Nat) (oi : Int) (w w' : World) : Prop :=
  PL gs B gx vx x1 x2 gr N s s w w' ∧ ∃ a c d, w'.heap[q]? = some (Obj.cells #[a, .int .i64 oi, c, d] 32 (0, 0))
section
variable {gs : List Int} {B gx x1 x2 gr N q : Nat} {vx : Value} {s : LS} {oi : Int} {w w1 : World}
theorem PQ.cell (h : PQ gs B gx vx x1 x2 gr N s q oi w w1) : w1.cell? ⟨q, 1, none⟩ = some (.int .i64 oi) := by
  obtain ⟨_, a, c, d, h⟩ := h
  exact cell_of_row _ _ _ _ _ _ h
theorem PQ.size (h : PQ gs B gx vx x1 x2 gr N s q oi w w1) {w' : World} (hb : Below w1.heap.size w1 w') : PQ gs B gx vx x1 x2 gr N s q oi w w' := by
  obtain ⟨h1, a, c, d, h2⟩ := h
  exact ⟨h1.size hb, a, c, d, (hb.block q (Array.getElem?_eq_some_iff.1 h2).1).trans h2⟩
theorem PQ.drew (h : PQ gs B gx vx x1 x2 gr N s q oi w w1) : PQ gs B gx vx x1 x2 gr N s q oi w w1.drew := h.size (Below.refl _ _).drew
theorem q_at (h : PQ gs B gx vx x1 x2 gr N s q oi w w1) {za : Bool} {zb : Int} {zc : Bool} (hz : atL s oi = ⟨za, zb, zc⟩) : Calls Try.prog 16 #[.pointer (some ⟨gx, 0, none⟩), .int .i64 oi] w1 fun e w' => e = .returned (.agg #[.bool za, .int .i64 zb, .bool zc]) ∧ PQ gs B gx vx x1 x2 gr N s q oi w w' ∧ Below w1.heap.size w1 w' := by
  refine (px_at h.1 oi).mono ?_
  rintro e w' ⟨rfl, _, hb⟩
  rw [hz]
  exact ⟨rfl, h.size hb, hb⟩
theorem q_rat (h : PQ gs B gx vx x1 x2 gr N s q oi w w1) {za : Bool} {zb : Int} {zc : Bool} (hz : atL s oi = ⟨za, zb, zc⟩) : Calls Try.prog 17 #[.pointer (some ⟨gr, 0, none⟩), .int .i64 oi] w1 fun e w' => e = .returned (.agg #[.bool za, .int .i64 zb, .bool zc]) ∧ PQ gs B gx vx x1 x2 gr N s q oi w w' ∧ Below w1.heap.size w1 w' := by
  refine (pr_at h.1 oi).mono ?_
  rintro e w' ⟨rfl, _, hb⟩
  rw [hz]
  exact ⟨rfl, h.size hb, hb⟩
theorem q_all (h : PQ gs B gx vx x1 x2 gr N s q oi w w1) (hg : gs.length ≤ 60) : Calls Try.prog 19 #[.pointer (some ⟨gx, 0, none⟩)] w1 fun e w' => (∃ A c, e = .returned (.slice A (view s).length c) ∧ LatsAt w' (view s) (.slice A (view s).length c)) ∧ PQ gs B gx vx x1 x2 gr N s q oi w w' ∧ Below w1.heap.size w1 w' := by
  refine (px_all h.1 hg).mono ?_
  rintro e w' ⟨h1, _, hb⟩
  exact ⟨h1, h.size hb, hb⟩
theorem q_rall (h : PQ gs B gx vx x1 x2 gr N s q oi w w1) (hg : gs.length ≤ 60) : Calls Try.prog 20 #[.pointer (some ⟨gr, 0, none⟩)] w1 fun e w' => (∃ A c, e = .returned (.slice A (view s).length c) ∧ LatsAt w' (view s) (.slice A (view s).length c)) ∧ PQ gs B gx vx x1 x2 gr N s q oi w w' ∧ Below w1.heap.size w1 w' := by
  refine (pr_all h.1 hg).mono ?_
  rintro e w' ⟨h1, _, hb⟩
  exact ⟨h1, h.size hb, hb⟩
theorem q_same (h : PQ gs B gx vx x1 x2 gr N s q oi w w1) {l : List Lat} {v1 v2 : Value} (h1 : LatsAt w1 l v1) (h2 : LatsAt w1 l v2) (hl : l.length ≤ 1000000) : Calls Try.prog 18 #[v1, v2] w1 fun e w' => e = .returned (.bool true) ∧ PQ gs B gx vx x1 x2 gr N s q oi w w' := by
  refine (Same_any l v1 v2 w1 h1 h2 hl).mono ?_
  rintro e w' ⟨rfl, hb⟩
  exact ⟨rfl, h.size hb⟩
end
set_option maxHeartbeats 8000000 in
set_option maxRecDepth 100000 in
theorem plays_walk (gs : List Int) (l : List LOp) (v0 v1 : Value) (w : World) (hg : NumsAt w gs v0) (hgf : ∀ x ∈ gs, Fit64 x) (hgl : gs.length ≤ 2000000) (h : OpsAt w l v1) (hp : ∀ o ∈ l, LatsAt w o.L o.vL) (hll : l.length ≤ maxLen) :
    Calls Try.prog 3 #[v0, v1] w (LPEnd w) := by
  have hv := h
  obtain ⟨A, c, rfl, hc, -⟩ := hv
  have hv := hg
  obtain ⟨AG, cG, rfl, hcG, -⟩ := hv
  have H := Lib.hid h
  have HP := Lib.hid hp
  have HG := Lib.hid hg
  have HGF := Lib.hid hgf
  unfold maxLen at hll
  clear h hp hg hgf
  have hnil := fun (w : World) (p : Option Addr) => run_eql_pointer_nil (P := Try.prog) w 25 p (by kernel_rfl)
  have hnn := fun (w : World) (p : Option Addr) => run_neq_pointer_nil (P := Try.prog) w 25 p (by kernel_rfl)
  go_enter Try.func3, Try.ntmps3
  go_wp2_with fail
  refine (head_walk _).mono ?_
  rintro e w2 ⟨rfl, hb1⟩
  have HB2 := Lib.hid hb1
  have hs2 : w.heap.size ≤ w2.heap.size := HB2.out.size
  clear hb1
  go_wp2_with fail
  refine (New_any gs _ w2 (LawFrame.RowsAt.below HG.out HB2.out) HGF.out hgl).mono ?_
  rintro e w3 ⟨gx, vx, x1, x2, rfl, hx, hb3⟩
  have HX := Lib.hid hx
  have HB3 := Lib.hid hb3
  clear hx hb3
  go_wp2_with fail
  refine (RNew_any gs _ w3 (LawFrame.RowsAt.below (LawFrame.RowsAt.below HG.out HB2.out) HB3.out) hgl).mono ?_
  rintro e w4 ⟨gr, rfl, hr, hb4⟩
  have hA : PL gs w2.heap.size gx vx x1 x2 gr 0 (fresh gs) (fresh gs) w2 w4 := by
    obtain ⟨vG, vL, hr⟩ := hr
    rw [zeros_view] at hr
    exact ⟨HX.out.below hb4, ⟨vG, vL, hr.low HB3.out.size⟩, ⟨grps_fresh _, grps_fresh _⟩, ⟨inv_fresh _, inv_fresh _⟩, HB3.out.trans (hb4.mono HB3.out.size), Nat.le_trans HB3.out.size hb4.size⟩
  have HA := Lib.hid hA
  have hpp := HB3.out.size
  clear hA hr hb4 HX HB3
  go_wp2_with fail
  refine (great_any _ gs.length _ l _ w4 (by omega) (LawFrame.RowsAt.below H.out (HB2.out.trans (HA.out.below.1.mono hs2))) (fun o ho => LawFrame.RowsAt.below (HP.out o ho) (HB2.out.trans (HA.out.below.1.mono hs2))) (by omega)).mono ?_
  rintro e w5 ⟨⟨gb, rfl, hgr⟩, rfl⟩
  rcases gb with _ | _
  · obtain ⟨hl2, hg6⟩ := hgr rfl
    clear hgr
    go_wp2_with fail
    go_loopw [8] (fun i wr => ∃ (k : Nat) (s : LS) (y1 y2 : Nat), k ≤ l.length ∧ i = .int .i64 k ∧ Hid (PL gs w2.heap.size gx vx y1 y2 gr (62 * k) s s w2 wr)) (fun i _ => l.length - (intOf i).toNat)
    case atStart => exact ⟨0, _, _, _, Nat.zero_le _, rfl, HA.out⟩
    case round =>
      clear HA
      obtain ⟨k, s, y1, y2, hk, rfl, HA⟩ := hrel
      by_cases hlt : k < l.length
      · obtain ⟨o, hx⟩ : ∃ o, l[k]? = some o := ⟨_, List.getElem?_eq_getElem hlt⟩
        obtain ⟨bb, off', c', hv, hbl, hcell⟩ := H.out.at_ hx
        have hbw := HB2.out.trans (HA.out.below.1.mono hs2)
        have hL := HP.out o (List.mem_of_getElem? hx)
        obtain ⟨AL, cL, hvL, hcL, -⟩ := HP.out o (List.mem_of_getElem? hx)
        have e0 := (hbw.cell (p := ⟨bb, off' + k * 4 + 0, none⟩) hbl).trans (hcell 0 _ rfl)
        have e1 := (hbw.cell (p := ⟨bb, off' + k * 4 + 1, none⟩) hbl).trans (hcell 1 _ rfl)
        have e2 := (hbw.cell (p := ⟨bb, off' + k * 4 + 2, none⟩) hbl).trans (hcell 2 _ rfl)
        have e3 := (hbw.cell (p := ⟨bb, off' + k * 4 + 3, none⟩) hbl).trans (hcell 3 _ rfl)
        rw [hvL] at e3 hL
        simp only [Nat.add_zero] at e0
        injection hv with hA e4 e5
        subst hA
        clear e4 e5
        obtain ⟨wh, oi, now, vL, L⟩ := o
        simp only at e0 e1 e2 e3 hL
        have HL := Lib.hid hL
        have HBW := Lib.hid hbw
        clear hcell hx hvL hcL hL hbw
        have HA1 := Lib.hid (HA.out.size (w' := wr.alloc (.cells #[.int .i64 wh, .int .i64 oi, .int .i64 now, .slice AL L.length cL] 32)) ((Below.refl _ _).alloc (Nat.le_refl _) _))
        have HL1 := Lib.hid (LawFrame.RowsAt.below (w' := wr.alloc (.cells #[.int .i64 wh, .int .i64 oi, .int .i64 now, .slice AL L.length cL] 32)) HL.out (HBW.out.alloc HBW.out.size _))
        have HBX : Hid ((wr.alloc (.cells #[.int .i64 wh, .int .i64 oi, .int .i64 now, .slice AL L.length cL] 32)).heap[wr.heap.size]? = some (Obj.cells #[.int .i64 wh, .int .i64 oi, .int .i64 now, .slice AL L.length cL] 32 (0, 0))) := Lib.hid (heap_alloc_new _ _)
        clear HBW
        go_upto_block 2 with fail
        go_cut [10, 11] (fun a b wx => ∃ (r : Bool) (s' : LS) (z1 z2 : Nat), a = .bool r ∧ b = .bool r ∧ Hid (PQ gs w2.heap.size gx vx z1 z2 gr (62 * (k + 1)) s' wr.heap.size oi w2 wx))
        case first =>
          by_cases h3 : wh = 3
          · subst h3
            go_wp2_with fail
            refine (px_reset HA1.out hg6 (by omega) oi).mono ?_
            rintro e w6 ⟨rfl, h, hkp⟩
            have HA2 := Lib.hid h
            have HBX2 := Lib.hid (hkp _ _ HBX.out)
            have b1 : w6.cell? ⟨wr.heap.size, 1, none⟩ = some (.int .i64 oi) := cell_of_row _ _ _ _ _ _ HBX2.out
            clear h hkp HA1 HBX
            go_wp2_with fail
            refine (pr_reset HA2.out oi).mono ?_
            rintro e w7 ⟨rfl, h, hkp⟩
            have HA3 := Lib.hid h
            have HBX3 := Lib.hid (hkp _ _ HBX2.out)
            clear h hkp HA2 HBX2 b1
            go_wp2_with fail
            go_meet
            exact ⟨_, _, _, _, rfl, rfl, HA3.out.mono (by omega), _, _, _, HBX3.out⟩
          · have h3b : (wh == 3) = false := by simp [h3]
            by_cases h4 : wh = 4
            · subst h4
              go_wp2_with fail
              refine (px_load HA1.out hg6 HL1.out (load_apart HA1.out.x HL.out hs2)).mono ?_
              rintro e w6 ⟨hkp, ⟨rfl, hva, s', z1, z2, hvw, hvi, hgg, h⟩ | ⟨rfl, hva, h⟩⟩
              · have HA2 := Lib.hid h
                have HBX2 := Lib.hid (hkp _ _ HBX.out)
                have b3 : w6.cell? ⟨wr.heap.size, 3, none⟩ = some (.slice AL L.length cL) := cell_of_row _ _ _ _ _ _ HBX2.out
                have HL2 := Lib.hid (LawFrame.RowsAt.below HL.out (HB2.out.trans (HA2.out.below.1.mono hs2)))
                have HVA := Lib.hid hva
                have HVW := Lib.hid hvw
                clear h hkp HA1 HBX hva hvw hvi hgg
                go_wp2_with fail
                refine (pr_load_yes HA2.out hg6 HL2.out HVA.out HVW.out).mono ?_
                rintro e w7 ⟨rfl, h, hkp⟩
                have HA3 := Lib.hid h
                have HBX3 := Lib.hid (hkp _ _ HBX2.out)
                clear h hkp HA2 HBX2 b3
                go_wp2_with fail
                go_meet
                exact ⟨_, _, _, _, rfl, rfl, HA3.out.mono (by omega), _, _, _, HBX3.out⟩
              · have HA2 := Lib.hid h
                have HBX2 := Lib.hid (hkp _ _ HBX.out)
                have b3 : w6.cell? ⟨wr.heap.size, 3, none⟩ = some (.slice AL L.length cL) := cell_of_row _ _ _ _ _ _ HBX2.out
                have HL2 := Lib.hid (LawFrame.RowsAt.below HL.out (HB2.out.trans (HA2.out.below.1.mono hs2)))
                have HVA := Lib.hid hva
                clear h hkp HA1 HBX hva
                go_wp2_with fail
                refine (pr_load_no HA2.out hg6 HL2.out HVA.out).mono ?_
                rintro e w7 ⟨rfl, h, hkp⟩
                have HA3 := Lib.hid h
                have HBX3 := Lib.hid (hkp _ _ HBX2.out)
                clear h hkp HA2 HBX2 b3
                go_wp2_with fail
                go_meet
                exact ⟨_, _, _, _, rfl, rfl, HA3.out.mono (by omega), _, _, _, HBX3.out⟩
            · have h4b : (wh == 4) = false := by simp [h4]
              go_wp2_with fail
              refine (px_trip HA1.out hg6 (by omega) oi now).mono ?_
              rintro e w6 ⟨rfl, h, hkp⟩
              have HA2 := Lib.hid h
              have HBX2 := Lib.hid (hkp _ _ HBX.out)
              have b1 : w6.cell? ⟨wr.heap.size, 1, none⟩ = some (.int .i64 oi) := cell_of_row _ _ _ _ _ _ HBX2.out
              have b2 : w6.cell? ⟨wr.heap.size, 2, none⟩ = some (.int .i64 now) := cell_of_row _ _ _ _ _ _ HBX2.out
              clear h hkp HA1 HBX
              go_wp2_with fail
              refine (pr_trip HA2.out hg6 oi now).mono ?_
              rintro e w7 ⟨rfl, h, hkp⟩
              have HA3 := Lib.hid h
              have HBX3 := Lib.hid (hkp _ _ HBX2.out)
              clear h hkp HA2 HBX2 b1 b2
              go_wp2_with fail
              go_meet
              exact ⟨_, _, _, _, rfl, rfl, HA3.out.mono (by omega), _, _, _, HBX3.out⟩
        case rest =>
          obtain ⟨r, s', z1, z2, rfl, rfl, HQ⟩ := hcut
          clear e0 e1 e2 e3 HA HA1 HL HL1 HBX
          generalize wr.heap.size = q at *
          obtain ⟨⟨za, zb, zc⟩, hz⟩ : ∃ z, atL s' oi = z := ⟨_, rfl⟩
          have HZ := Lib.hid hz
          have hvL : (view s').length ≤ 1000000 := by rw [view_len, HQ.out.1.lens.1]; omega
          have HVL := Lib.hid hvL
          clear hz hvL
          go_upto_region 21 with fail
          go_cut [99] (fun t wx => t = .bool false ∧ Hid (PQ gs w2.heap.size gx vx z1 z2 gr (62 * (k + 1)) s' q oi w2 wx))
          case first =>
            have HS := Lib.hid HQ.out.drew
            have b1 := HQ.out.cell
            go_region_with (first
              | (go_at_call 16; refine (q_at HS.out HZ.out).mono ?_; rintro e w6 ⟨rfl, h, hb⟩; have HS := Lib.hid h; have b1 := HS.out.cell; clear h hb)
              | (go_at_call 17; refine (q_rat HS.out HZ.out).mono ?_; rintro e w6 ⟨rfl, h, hb⟩; have HS := Lib.hid h; have b1 := HS.out.cell; clear h hb)
              | (go_at_call 19; refine (q_all HS.out hg6).mono ?_; rintro e w6 ⟨⟨Ax, cx, rfl, hrx⟩, h, hb⟩; have HS := Lib.hid h; have HRX := Lib.hid hrx; (try have HRY := Lib.hid (LawFrame.RowsAt.below HRY.out hb)); clear h hb hrx)
              | (go_at_call 20; refine (q_rall HS.out hg6).mono ?_; rintro e w6 ⟨⟨Ay, cy, rfl, hry⟩, h, hb⟩; have HS := Lib.hid h; have HRY := Lib.hid hry; (try have HRX := Lib.hid (LawFrame.RowsAt.below HRX.out hb)); clear h hb hry)
              | (go_at_call 18; refine (q_same HS.out HRX.out HRY.out HVL.out).mono ?_; rintro e w6 ⟨rfl, h⟩; have HS := Lib.hid h; clear h))
            all_goals go_wp2_with fail
            all_goals go_meet
            all_goals exact ⟨rfl, HS⟩
          case rest =>
            obtain ⟨rfl, HS⟩ := hcut
            clear HQ HZ
            go_wp2_with fail
            have HG5 := Lib.hid (LawFrame.RowsAt.below HG.out (HB2.out.trans (HS.out.1.below.1.mono hs2)))
            go_loop [12] (fun i => ∃ j : Nat, j ≤ gs.length ∧ i = .int .i64 j) (fun i => gs.length - (intOf i).toNat)
            case atStart => exact ⟨0, Nat.zero_le _, rfl⟩
            case round =>
              obtain ⟨j, hj, rfl⟩ := hrel
              by_cases hjl : j < gs.length
              · obtain ⟨gj, hgj⟩ : ∃ x, gs[j]? = some x := ⟨_, List.getElem?_eq_getElem hjl⟩
                obtain ⟨bG, oG, cG', hv, -, hcell⟩ := HG5.out.at_ hgj
                have n0 := hcell 0 _ rfl
                simp only [Nat.mul_one, Nat.add_zero] at n0
                injection hv with hA e4 e5
                subst hA
                have HFJ := Lib.hid (HGF.out gj (List.mem_of_getElem? hgj))
                clear e4 e5 hcell hgj
                go_wp2_with fail
                refine (px_first HS.out.1 gj HFJ.out).mono ?_
                rintro e w8 ⟨rfl, rfl⟩
                go_wp2_with fail
                refine (pr_first HS.out.1 hg6 gj).mono ?_
                rintro e w9 ⟨rfl, rfl⟩
                generalize (s'.first gj).getD 0 = u1 at *
                generalize (s'.first gj).isSome = u2 at *
                go_wp2_with fail
                go_round
                case rel => exact ⟨j + 1, by omega, by go_num⟩
                case measure => simp [intOf]; omega
              · go_wp2_with fail
                go_roundw
                case rel => exact ⟨k + 1, s', z1, z2, by omega, by go_num, Lib.hid HS.out.1⟩
                case measure => simp [intOf]; omega
      · go_wp2_with fail
        go_ret
        exact ⟨rfl, HB2.out.trans (HA.out.below.1.mono hs2)⟩
  · go_wp2_with fail
    go_ret
    exact ⟨rfl, HB2.out.trans (HA.out.below.1.mono hs2)⟩
end Go.Proofs.Ytcaobjmngdlklaa
