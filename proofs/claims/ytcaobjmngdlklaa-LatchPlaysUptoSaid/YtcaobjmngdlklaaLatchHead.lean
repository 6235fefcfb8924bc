/-
  The law's live question.
-/
import Derived.Test.YtcaobjmngdlklaaLatchSync
import Derived.Laws.Pointers
namespace Go.Proofs.Ytcaobjmngdlklaa
open Go.RowKit
theorem trip_lead {s : LS} {k : Nat} {o : One} {now : Int} (ho : s.l[k]? = some o) (hs : o.set = false) (hg : o.grp ≠ 0) (hl : leads s o.grp k now) :
    trip s k now = (true, ⟨s.l.set k { o with set := true, at_ := now }, upd s.first o.grp (some k), upd s.cnt o.grp (some ((s.cnt o.grp).getD 0 + 1))⟩) := by
  unfold trip
  rw [if_pos (by omega), Int.toNat_natCast, ho]
  simp [hs, tripped, hg, hl]
theorem trip_keep {s : LS} {k : Nat} {o : One} {now : Int} (ho : s.l[k]? = some o) (hs : o.set = false) (hg : o.grp ≠ 0) (hl : ¬ leads s o.grp k now) :
    trip s k now = (true, ⟨s.l.set k { o with set := true, at_ := now }, s.first, upd s.cnt o.grp (some ((s.cnt o.grp).getD 0 + 1))⟩) := by
  unfold trip
  rw [if_pos (by omega), Int.toNat_natCast, ho]
  simp [hs, tripped, hg, hl]
theorem trip_none {s : LS} {k : Nat} {o : One} {now : Int} (ho : s.l[k]? = some o) (hs : o.set = false) (hg : o.grp = 0) :
    trip s k now = (true, ⟨s.l.set k { o with set := true, at_ := now }, s.first, s.cnt⟩) := by
  unfold trip
  rw [if_pos (by omega), Int.toNat_natCast, ho]
  simp [hs, tripped, hg]
theorem trip_held {s : LS} {k : Nat} {o : One} {now : Int} (ho : s.l[k]? = some o) (hs : o.set = true) : trip s k now = (false, s) := by
  unfold trip
  rw [if_pos (by omega), Int.toNat_natCast, ho]
  simp [hs]
theorem fits4 : ∀ x ∈ ([1, 1, 1, 0] : List Int), Fit64 x := by
  intro x hx
  have h : x = 1 ∨ x = 0 := by simpa using hx
  rcases h with rfl | rfl <;> exact ⟨by decide, by decide⟩
def f1 : Int → Option Int := upd (fun _ => none) 1 (some 2)
def c1 : Int → Option Int := upd (fun _ => none) 1 (some 1)
def f2 : Int → Option Int := upd f1 1 (some 1)
def c2 : Int → Option Int := upd c1 1 (some 2)
def c3 : Int → Option Int := upd c2 1 (some 3)
def f5 : Int → Option Int := upd f2 1 none
def c5 : Int → Option Int := upd c3 1 (some 2)
def s0 : LS := fresh [1, 1, 1, 0]
def s1 : LS := ⟨[⟨false, 0, 1⟩, ⟨false, 0, 1⟩, ⟨true, 5, 1⟩, ⟨false, 0, 0⟩], f1, c1⟩
def s2 : LS := ⟨[⟨false, 0, 1⟩, ⟨true, 5, 1⟩, ⟨true, 5, 1⟩, ⟨false, 0, 0⟩], f2, c2⟩
def s3 : LS := ⟨[⟨true, 6, 1⟩, ⟨true, 5, 1⟩, ⟨true, 5, 1⟩, ⟨false, 0, 0⟩], f2, c3⟩
def s4 : LS := ⟨[⟨true, 6, 1⟩, ⟨true, 5, 1⟩, ⟨true, 5, 1⟩, ⟨true, 8, 0⟩], f2, c3⟩
def s5 : LS := ⟨[⟨true, 6, 1⟩, ⟨false, 0, 1⟩, ⟨true, 5, 1⟩, ⟨true, 8, 0⟩], f5, c5⟩
theorem t1 : trip s0 2 5 = (true, s1) := trip_lead (s := s0) (k := 2) (o := ⟨false, 0, 1⟩) rfl rfl (by decide) (.inl rfl)
theorem t2 : trip s1 1 5 = (true, s2) := trip_lead (s := s1) (k := 1) (o := ⟨false, 0, 1⟩) rfl rfl (by decide) (.inr ⟨2, rfl, ⟨⟨true, 5, 1⟩, rfl, rfl⟩, by decide⟩)
theorem t3 : trip s2 0 6 = (true, s3) := trip_keep (s := s2) (k := 0) (o := ⟨false, 0, 1⟩) rfl rfl (by decide) (by
  rintro (h | ⟨f, h1, ⟨o, h2, h3⟩, h4⟩)
  · exact absurd h (by decide)
  · have : f = 1 := by have h1' : some (1 : Int) = some f := h1; injection h1' with h; exact h.symm
    subst this
    have : o = ⟨true, 5, 1⟩ := by have h2' : some (⟨true, 5, 1⟩ : One) = some o := h2; injection h2' with h; exact h.symm
    subst this
    exact absurd h3 (by decide))
theorem t4 : trip s3 0 7 = (false, s3) := trip_held (s := s3) (k := 0) (o := ⟨true, 6, 1⟩) rfl rfl
theorem t5 : trip s3 3 8 = (true, s4) := trip_none (s := s3) (k := 3) (o := ⟨false, 0, 0⟩) rfl rfl rfl
theorem t6 : reset s4 1 = (true, s5) := by
  unfold reset
  rw [if_pos (by decide)]
  show (if (⟨true, 5, 1⟩ : One).set = true then (true, cleared s4 1 ⟨true, 5, 1⟩) else (false, s4)) = _
  rw [if_pos rfl]
  have e1 : s4.first 1 = some ((1 : Nat) : Int) := rfl
  have e2 : (s4.cnt 1).getD 0 - 1 ≠ 0 := by decide
  simp only [cleared]
  rw [if_pos ⟨by decide, e1⟩, if_pos (by decide), if_neg e2]
  rfl
theorem t7 : reset s5 1 = (false, s5) := by
  unfold reset
  rw [if_pos (by decide)]
  rfl
theorem inv0 : Inv s0 := inv_fresh _
theorem inv1 : Inv s1 := by have := inv_trip inv0 2 5; rw [t1] at this; exact this
theorem inv2 : Inv s2 := by have := inv_trip inv1 1 5; rw [t2] at this; exact this
theorem inv3 : Inv s3 := by have := inv_trip inv2 0 6; rw [t3] at this; exact this
theorem inv4 : Inv s4 := by have := inv_trip inv3 3 8; rw [t5] at this; exact this
theorem inv5 : Inv s5 := by have := inv_reset inv4 1; rw [t6] at this; exact this
/-- so the latches stand, and what was there is as it was -/
def HI (B g : Nat) (v : Value) (m1 m2 N : Nat) (s : LS) (w w' : World) : Prop := LAt B g v m1 m2 N s w' ∧ Below B w w' ∧ B ≤ w'.heap.size
section
variable {B g m1 m2 N : Nat} {v : Value} {s : LS} {w w1 : World}
theorem HI.foot (h : HI B g v m1 m2 N s w w1) {N' : Nat} {s' : LS} {w' : World} (hl : LAt B g v m1 m2 N' s' w') (hf : Foot g v m1 m2 w1 w') : HI B g v m1 m2 N' s' w w' := ⟨hl, h.2.1.trans (h.1.foot hf h.2.2), Nat.le_trans h.2.2 hf.size⟩
theorem HI.below (h : HI B g v m1 m2 N s w w1) {w' : World} (hb : Below w1.heap.size w1 w') : HI B g v m1 m2 N s w w' := ⟨h.1.below hb, h.2.1.trans (hb.mono h.2.2), Nat.le_trans h.2.2 hb.size⟩
theorem h_trip (h : HI B g v m1 m2 N s w w1) (hN : N < 1000000) (hI : Inv s) (hl : s.l.length ≤ 1000000) (i now : Int) (b : Bool) (s' : LS) (ht : trip s i now = (b, s')) :
    Calls Try.prog 14 #[.pointer (some ⟨g, 0, none⟩), .int .i64 i, .int .i64 now] w1 fun e w' => e = .returned (.bool b) ∧ HI B g v m1 m2 (N + 2) s' w w' := by
  refine (trip_any B g v m1 m2 N s w1 h.1 hN hI hl i now).mono ?_
  rintro e w' ⟨h1, h2, h3⟩
  rw [ht] at h1 h2
  exact ⟨h1, h.foot h2 h3⟩
theorem h_reset (h : HI B g v m1 m2 N s w w1) (hN : N < 1000000) (hI : Inv s) (hl : s.l.length ≤ 1000000) (i : Int) (b : Bool) (s' : LS) (ht : reset s i = (b, s')) :
    Calls Try.prog 10 #[.pointer (some ⟨g, 0, none⟩), .int .i64 i] w1 fun e w' => e = .returned (.bool b) ∧ HI B g v m1 m2 (N + 2) s' w w' := by
  refine (reset_any B g v m1 m2 N s w1 h.1 hN hI hl i).mono ?_
  rintro e w' ⟨h1, h2, h3⟩
  rw [ht] at h1 h2
  exact ⟨h1, h.foot h2 h3⟩
theorem h_at (h : HI B g v m1 m2 N s w w1) (i : Int) (x : Lat) (hx : atL s i = x) : Calls Try.prog 16 #[.pointer (some ⟨g, 0, none⟩), .int .i64 i] w1 fun e w' => e = .returned (latV x) ∧ HI B g v m1 m2 N s w w' := by
  refine (At_any B g v m1 m2 N s w1 h.1 i).mono ?_
  rintro e w' ⟨rfl, hb⟩
  rw [hx]
  exact ⟨rfl, h.below hb⟩
theorem h_at2 (h : HI B g v m1 m2 N s w w1) (i : Int) (x : Lat) (hx : atL s i = x) : Calls Try.prog 16 #[.pointer (some ⟨g, 0, none⟩), .int .i64 i] w1 fun e w' => e = .returned (latV x) ∧ HI B g v m1 m2 N s w w' ∧ Below w1.heap.size w1 w' := by
  refine (At_any B g v m1 m2 N s w1 h.1 i).mono ?_
  rintro e w' ⟨rfl, hb⟩
  rw [hx]
  exact ⟨rfl, h.below hb, hb⟩
theorem LAt.far {w' : World} (hx : LAt B g v m1 m2 N s w) (hf : Foot g v m1 m2 w w') {k : Nat} {cs : Array Value} {t : TypeId} (hk : w.heap[k]? = some (Obj.cells cs t (0, 0))) (h48 : t ≠ 48) (h50 : t ≠ 50) : w'.heap[k]? = some (Obj.cells cs t (0, 0)) := by
  obtain ⟨es1, cl1, o1⟩ := hx.1.2.2.1.obj
  obtain ⟨es2, cl2, o2⟩ := hx.1.2.2.2.obj
  have og := hx.1.1
  unfold Words.Blk at og
  refine (hf.block k (Array.getElem?_eq_some_iff.1 hk).1 ?_ ?_ ?_ ?_).trans hk
  · rintro rfl; rw [og] at hk; injection hk with e; injection e with _ e; exact h48 e.symm
  · intro e
    obtain ⟨cs', h'⟩ := own_obj hx.1.2.1 e
    rw [h'] at hk; injection hk with e; injection e with _ e; exact h50 e.symm
  · rintro rfl; rw [o1] at hk; cases hk
  · rintro rfl; rw [o2] at hk; cases hk
theorem h_reset2 (h : HI B g v m1 m2 N s w w1) (hN : N < 1000000) (hI : Inv s) (hl : s.l.length ≤ 1000000) (i : Int) (b : Bool) (s' : LS) (ht : reset s i = (b, s')) :
    Calls Try.prog 10 #[.pointer (some ⟨g, 0, none⟩), .int .i64 i] w1 fun e w' => e = .returned (.bool b) ∧ HI B g v m1 m2 (N + 2) s' w w' ∧ ∀ (k : Nat) (cs : Array Value), w1.heap[k]? = some (Obj.cells cs 37 (0, 0)) → w'.heap[k]? = some (Obj.cells cs 37 (0, 0)) := by
  refine (reset_any B g v m1 m2 N s w1 h.1 hN hI hl i).mono ?_
  rintro e w' ⟨h1, h2, h3⟩
  rw [ht] at h1 h2
  exact ⟨h1, h.foot h2 h3, fun k cs hk => h.1.far h3 hk (by decide) (by decide)⟩
theorem h_all (h : HI B g v m1 m2 N s w w1) (hl : s.l.length ≤ 1000000) (n : Nat) (hn : s.l.length = n) : Calls Try.prog 19 #[.pointer (some ⟨g, 0, none⟩)] w1 fun e w' => (∃ A c, e = .returned (.slice A n c)) ∧ HI B g v m1 m2 N s w w' := by
  refine (All_any B g v m1 m2 N s w1 h.1 hl).mono ?_
  rintro e w' ⟨v', rfl, hr, hb⟩
  obtain ⟨A, c, rfl⟩ := own_form hr
  rw [view_len, hn]
  exact ⟨⟨A, c, rfl⟩, h.below hb⟩
theorem h_load_nil (h : HI B g v m1 m2 N s w w1) (hn : 0 ≠ s.l.length) : Calls Try.prog 12 #[.pointer (some ⟨g, 0, none⟩), .slice none 0 0] w1 fun e w' => e = .returned (.bool false) ∧ w1 = w' := Load_len B g v m1 m2 N s w1 h.1 0 0 none hn
theorem h_first (h : HI B g v m1 m2 N s w w1) (gr : Int) (hgr : Fit64 gr) (x : Option Int) (hx : s.first gr = x) : Calls Try.prog 21 #[.pointer (some ⟨g, 0, none⟩), .int .i64 gr] w1 fun e w' => e = .returned (.tuple #[.int .i64 (x.getD 0), .bool x.isSome]) ∧ w1 = w' := by
  rw [← hx]
  exact First_any B g v m1 m2 N s w1 h.1 gr hgr
end
set_option maxHeartbeats 2000000 in
set_option maxRecDepth 100000 in
theorem head_walk (w : World) : Calls Try.prog 6 #[] w fun e w' => e = .returned (.bool true) ∧ Below w.heap.size w w' := by
  have hnil := fun (w : World) (p : Option Addr) => run_eql_pointer_nil (P := Try.prog) w 25 p (by kernel_rfl)
  have hI0 := Lib.hid inv0
  go_enter Try.func6, Try.ntmps6
  go_wp2_with fail
  have hn : NumsAt (w.alloc (.cells #[.int .i64 1, .int .i64 1, .int .i64 1, .int .i64 0] 3)) [1, 1, 1, 0] (.slice (some ⟨w.heap.size, 0, none⟩) 4 4) := by
    refine ⟨some ⟨w.heap.size, 0, none⟩, 4, rfl, by decide, fun _ => ⟨w.heap.size, 0, rfl, by simp, fun i x hi d u hu => ?_⟩⟩
    have hb := heap_alloc_new w (.cells #[.int .i64 1, .int .i64 1, .int .i64 1, .int .i64 0] 3)
    have hi4 : i < 4 := (List.getElem?_eq_some_iff.1 hi).1
    have hd : d = 0 := by have := (List.getElem?_eq_some_iff.1 hu).1; simp at this; omega
    subst hd
    rw [cell_of_row _ _ _ _ _ _ hb]
    have h4 : i = 0 ∨ i = 1 ∨ i = 2 ∨ i = 3 := by omega
    rcases h4 with rfl | rfl | rfl | rfl <;> simp_all
  have HN := Lib.hid hn
  clear hn
  refine (New_any [1, 1, 1, 0] _ _ HN.out fits4 (by decide)).mono ?_
  rintro e w1 ⟨g, v, m1, m2, rfl, hL, hb⟩
  have hw0 : w.heap.size ≤ (w.alloc (.cells #[.int .i64 1, .int .i64 1, .int .i64 1, .int .i64 0] 3)).heap.size := by simp
  have HB0 := Lib.hid (((Below.refl _ _).alloc (Nat.le_refl _) _).trans (hb.mono hw0))
  have hsz := hb.size
  generalize hB : (w.alloc (.cells #[.int .i64 1, .int .i64 1, .int .i64 1, .int .i64 0] 3)).heap.size = B at *
  have H0 : Hid (HI B g v m1 m2 0 s0 w1 w1) := Lib.hid ⟨hL, Below.refl _ _, hsz⟩
  have hwB := hw0
  clear hL hb hw0 HN hB hsz
  go_wp2_with fail
  refine (h_trip H0.out (by omega) inv0 (by decide) 2 5 true s1 t1).mono ?_
  rintro e w2 ⟨rfl, h⟩
  have H1 := Lib.hid h; clear h H0
  go_wp2_with fail
  refine (h_trip H1.out (by omega) inv1 (by decide) 1 5 true s2 t2).mono ?_
  rintro e w3 ⟨rfl, h⟩
  have H2 := Lib.hid h; clear h H1
  go_wp2_with fail
  refine (h_trip H2.out (by omega) inv2 (by decide) 0 6 true s3 t3).mono ?_
  rintro e w4 ⟨rfl, h⟩
  have H3 := Lib.hid h; clear h H2
  go_wp2_with fail
  refine (h_trip H3.out (by omega) inv3 (by decide) 0 7 false s3 t4).mono ?_
  rintro e w5 ⟨rfl, h⟩
  have H4 := Lib.hid h; clear h H3
  go_wp2_with fail
  refine (h_trip H4.out (by omega) inv3 (by decide) 3 8 true s4 t5).mono ?_
  rintro e w6 ⟨rfl, h⟩
  have H5 := Lib.hid h; clear h H4
  go_wp2_with fail
  refine (h_first H5.out 1 ⟨by decide, by decide⟩ (some 1) rfl).mono ?_
  rintro e w7 ⟨rfl, rfl⟩
  simp only [Option.getD_some, Option.isSome_some]
  go_wp2_with fail
  refine (h_first H5.out 0 ⟨by decide, by decide⟩ none rfl).mono ?_
  rintro e w7 ⟨rfl, rfl⟩
  simp only [Option.getD_none, Option.isSome_none]
  go_wp2_with fail
  refine (h_at H5.out 1 ⟨true, 5, true⟩ rfl).mono ?_
  rintro e w7 ⟨rfl, h⟩
  have H6 := Lib.hid h; clear h H5
  unfold latV
  dsimp only
  go_wp2_with fail
  have b7 : (w7.alloc (.cells #[.bool true, .int .i64 5, .bool true] 37)).heap[w7.heap.size]? = some (Obj.cells #[.bool true, .int .i64 5, .bool true] 37 (0, 0)) := heap_alloc_new _ _
  have H7 := Lib.hid (H6.out.below (w' := w7.alloc (.cells #[.bool true, .int .i64 5, .bool true] 37)) ((Below.refl _ _).alloc (Nat.le_refl _) _))
  have h78 : w7.heap.size < (w7.alloc (.cells #[.bool true, .int .i64 5, .bool true] 37)).heap.size := by simp
  generalize w7.alloc (.cells #[.bool true, .int .i64 5, .bool true] 37) = w8 at *
  generalize w7.heap.size = q7 at *
  clear H6
  refine (h_at2 H7.out 0 ⟨true, 6, false⟩ rfl).mono ?_
  rintro e w9 ⟨rfl, h, hb9⟩
  have B7 := Lib.hid ((hb9.block q7 h78).trans b7)
  have H8 := Lib.hid h; clear h H7 b7
  have h79 : q7 < w9.heap.size := Nat.lt_of_lt_of_le h78 hb9.size
  clear hb9 h78
  unfold latV
  dsimp only
  go_wp2_with fail
  have b9 : (w9.alloc (.cells #[.bool true, .int .i64 6, .bool false] 37)).heap[w9.heap.size]? = some (Obj.cells #[.bool true, .int .i64 6, .bool false] 37 (0, 0)) := heap_alloc_new _ _
  have H9 := Lib.hid (H8.out.below (w' := w9.alloc (.cells #[.bool true, .int .i64 6, .bool false] 37)) ((Below.refl _ _).alloc (Nat.le_refl _) _))
  have B9 : Hid ((w9.alloc (.cells #[.bool true, .int .i64 6, .bool false] 37)).heap[q7]? = some (Obj.cells #[.bool true, .int .i64 5, .bool true] 37 (0, 0))) := Lib.hid ((Below.heap_alloc _ _ _ h79).trans B7.out)
  clear B7 h79 H8
  generalize w9.alloc (.cells #[.bool true, .int .i64 6, .bool false] 37) = w10 at *
  generalize w9.heap.size = q9 at *
  refine (h_reset2 H9.out (by omega) inv4 (by decide) 1 true s5 t6).mono ?_
  rintro e w11 ⟨rfl, h, hk⟩
  have H10 := Lib.hid h
  have B10 := Lib.hid (hk _ _ B9.out)
  have C10 := Lib.hid (hk _ _ b9)
  clear h hk B9 b9 H9
  go_wp2_with fail
  refine (h_reset2 H10.out (by omega) inv5 (by decide) 1 false s5 t7).mono ?_
  rintro e w12 ⟨rfl, h, hk⟩
  have H11 := Lib.hid h
  have B11 := Lib.hid (hk _ _ B10.out)
  have C11 := Lib.hid (hk _ _ C10.out)
  clear h hk B10 C10 H10
  go_wp2_with fail
  refine (h_first H11.out 1 ⟨by decide, by decide⟩ none rfl).mono ?_
  rintro e w13 ⟨rfl, rfl⟩
  simp only [Option.getD_none, Option.isSome_none]
  have d0 : w12.cell? ⟨q7, 0, none⟩ = some (.bool true) := cell_of_row _ _ _ _ _ _ B11.out
  have d1 : w12.cell? ⟨q7, 1, none⟩ = some (.int .i64 5) := cell_of_row _ _ _ _ _ _ B11.out
  have d2 : w12.cell? ⟨q7, 2, none⟩ = some (.bool true) := cell_of_row _ _ _ _ _ _ B11.out
  have k0 : w12.cell? ⟨q9, 0, none⟩ = some (.bool true) := cell_of_row _ _ _ _ _ _ C11.out
  have k1 : w12.cell? ⟨q9, 1, none⟩ = some (.int .i64 6) := cell_of_row _ _ _ _ _ _ C11.out
  have k2 : w12.cell? ⟨q9, 2, none⟩ = some (.bool false) := cell_of_row _ _ _ _ _ _ C11.out
  go_wp2_with fail
  refine (h_all H11.out (by decide) 4 rfl).mono ?_
  rintro e w14 ⟨⟨A, c, rfl⟩, h⟩
  have H12 := Lib.hid h
  clear h H11 d0 d1 d2 k0 k1 k2
  go_wp2_with fail
  refine (h_load_nil H12.out (by decide)).mono ?_
  rintro e w15 ⟨rfl, rfl⟩
  have HE := Lib.hid (HB0.out.trans (H12.out.2.1.mono hwB))
  go_wp2_with fail
  go_ret
  exact ⟨rfl, HE.out⟩
end Go.Proofs.Ytcaobjmngdlklaa
