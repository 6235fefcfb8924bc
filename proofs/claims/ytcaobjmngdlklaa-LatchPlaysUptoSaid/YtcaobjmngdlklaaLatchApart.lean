/-
  LatchApart: what trips, and is reset, in one group changes no other one's first one, nor its latches. For every input, with no condition.
-/
import Derived.Test.YtcaobjmngdlklaaLatchOps
namespace Go.Proofs.Ytcaobjmngdlklaa
open Go.RowKit Go.ChangeShapes Go.WideShapes
/-- two rows of latches share no block -/
structure Sep (gx : Nat) (vx : Value) (x1 x2 : Nat) (gy : Nat) (vy : Value) (y1 y2 : Nat) : Prop where
  g : gx ≠ gy
  v : ∀ b, vx.ownBlock = some b → vy.ownBlock ≠ some b
  m11 : x1 ≠ y1
  m12 : x1 ≠ y2
  m21 : x2 ≠ y1
  m22 : x2 ≠ y2
theorem Sep.flip {gx x1 x2 gy y1 y2 : Nat} {vx vy : Value} (h : Sep gx vx x1 x2 gy vy y1 y2) : Sep gy vy y1 y2 gx vx x1 x2 :=
  ⟨Ne.symm h.g, fun b hb hb' => h.v b hb' hb, Ne.symm h.m11, Ne.symm h.m21, Ne.symm h.m12, Ne.symm h.m22⟩
/-- what is done to one leaves the other as it was -/
theorem LAt.sep {B B' gx x1 x2 gy y1 y2 N M : Nat} {vx vy : Value} {s t : LS} {w w' : World} (hx : LAt B gx vx x1 x2 N s w) (hy : LAt B' gy vy y1 y2 M t w) (hs : Sep gx vx x1 x2 gy vy y1 y2) (hf : Foot gx vx x1 x2 w w') : LAt B' gy vy y1 y2 M t w' := by
  obtain ⟨a1, b1, o1⟩ := hx.1.2.2.1.obj
  obtain ⟨a2, b2, o2⟩ := hx.1.2.2.2.obj
  obtain ⟨a3, b3, o3⟩ := hy.1.2.2.1.obj
  obtain ⟨a4, b4, o4⟩ := hy.1.2.2.2.obj
  have og := hx.1.1
  have oy := hy.1.1
  unfold Words.Blk at og oy
  refine hy.kept ?_ (fun k hk => ?_) ?_ ?_
  · refine hf.block gy (Words.Blk.lt hy.1.1) (Ne.symm hs.g) (fun e => ?_) (fun e => ?_) (fun e => ?_)
    · obtain ⟨cs, hc⟩ := own_obj hx.1.2.1 e
      rw [oy] at hc; injection hc with e; injection e with _ e; cases e
    · subst e; rw [o1] at oy; cases oy
    · subst e; rw [o2] at oy; cases oy
  · obtain ⟨cs, hc⟩ := own_obj hy.1.2.1 hk
    refine hf.block k (hy.1.2.1.lt k hk).2 (fun e => ?_) (fun e => hs.v k e hk) (fun e => ?_) (fun e => ?_)
    · subst e; rw [og] at hc; injection hc with e; injection e with _ e; cases e
    · subst e; rw [o1] at hc; cases hc
    · subst e; rw [o2] at hc; cases hc
  · refine hf.block y1 hy.1.2.2.1.lt (fun e => ?_) (fun e => ?_) (Ne.symm hs.m11) (Ne.symm hs.m21)
    · subst e; rw [og] at o3; cases o3
    · obtain ⟨cs, hc⟩ := own_obj hx.1.2.1 e
      rw [o3] at hc; cases hc
  · refine hf.block y2 hy.1.2.2.2.lt (fun e => ?_) (fun e => ?_) (Ne.symm hs.m12) (Ne.symm hs.m22)
    · subst e; rw [og] at o4; cases o4
    · obtain ⟨cs, hc⟩ := own_obj hx.1.2.1 e
      rw [o4] at hc; cases hc
/-- what was made first, and what was made behind it -/
theorem sep_made {B B' gx x1 x2 gy y1 y2 N M : Nat} {vx vy : Value} {s t : LS} {w w' : World} (hx : LAt B gx vx x1 x2 N s w) (hy : LAt B' gy vy y1 y2 M t w') (hB : w.heap.size ≤ B') : Sep gx vx x1 x2 gy vy y1 y2 := by
  have h1 := Words.Blk.lt hx.1.1
  have h2 := hx.1.2.2.1.lt
  have h3 := hx.1.2.2.2.lt
  have h4 := hy.2.1
  refine ⟨by omega, fun b hb hb' => ?_, by omega, by omega, by omega, by omega⟩
  have h5 := (hx.1.2.1.lt b hb).2
  have h6 := (hy.1.2.1.lt b hb').1
  omega
/-! ### plainly -/
def G5 : List Int := [1, 2, 1, 2, 0]
theorem five {s : LS} (h : grps s = G5) : ∃ a b c d e : One, s.l = [a, b, c, d, e] ∧ a.grp = 1 ∧ b.grp = 2 ∧ c.grp = 1 ∧ d.grp = 2 ∧ e.grp = 0 := by
  unfold grps G5 at h
  rcases hl : s.l with _ | ⟨a, _ | ⟨b, _ | ⟨c, _ | ⟨d, _ | ⟨e, _ | ⟨x, r⟩⟩⟩⟩⟩⟩ <;> rw [hl] at h <;> simp at h
  exact ⟨a, b, c, d, e, rfl, h.1, h.2.1, h.2.2.1, h.2.2.2.1, h.2.2.2.2⟩
/-- alike in the first group -/
def Alike1 (s t : LS) : Prop := s.l[0]? = t.l[0]? ∧ s.l[2]? = t.l[2]? ∧ s.first 1 = t.first 1
theorem many1 {s t : LS} (hs : grps s = G5) (ht : grps t = G5) (h : Alike1 s t) : many s.l 1 = many t.l 1 := by
  obtain ⟨a, b, c, d, e, hl, ha, hb, hc, hd, he⟩ := five hs
  obtain ⟨a', b', c', d', e', hl', ha', hb', hc', hd', he'⟩ := five ht
  obtain ⟨h0, h2, _⟩ := h
  rw [hl, hl'] at h0 h2
  simp only [List.getElem?_cons_zero, List.getElem?_cons_succ, Option.some.injEq] at h0 h2
  subst h0 h2
  rw [hl, hl']
  unfold many
  simp [List.filter_cons, ha, hb, hc, hd, he, hb', hd', he']
theorem lead1 {s t : LS} (hs : grps s = G5) (ht : grps t = G5) (hS : Inv s) (hT : Inv t) (h : Alike1 s t) (k : Nat) (now : Int) : leads s 1 k now ↔ leads t 1 k now := by
  have hm := many1 hs ht h
  rcases hf : s.first 1 with _ | f
  · have hf' : t.first 1 = none := by rw [← h.2.2]; exact hf
    rw [leads_none hS (by decide) hf, leads_none hT (by decide) hf', hm]
  · have hf' : t.first 1 = some f := by rw [← h.2.2]; exact hf
    obtain ⟨h0, _, o, ho, _, hog⟩ := hS.first _ _ hf
    obtain ⟨_, _, o', ho', _, hog'⟩ := hT.first _ _ hf'
    have hoo : o = o' := by
      obtain ⟨a, b, c, d, e, hl, ha, hb, hc, hd, he⟩ := five hs
      obtain ⟨a', b', c', d', e', hl', ha', hb', hc', hd', he'⟩ := five ht
      obtain ⟨g0, g2, _⟩ := h
      generalize f.toNat = i at *
      rw [hl] at ho g0 g2
      rw [hl'] at ho' g0 g2
      match i, ho, ho' with
      | 0, ho, ho' => rw [g0] at ho; rw [ho] at ho'; exact Option.some.inj ho'
      | 1, ho, _ => simp at ho; rw [← ho, hb] at hog; exact absurd hog (by decide)
      | 2, ho, ho' => rw [g2] at ho; rw [ho] at ho'; exact Option.some.inj ho'
      | 3, ho, _ => simp at ho; rw [← ho, hd] at hog; exact absurd hog (by decide)
      | 4, ho, _ => simp at ho; rw [← ho, he] at hog; exact absurd hog (by decide)
      | n + 5, ho, _ => simp at ho
    subst hoo
    rw [leads_some hS hf ho, leads_some hT hf' ho']
theorem one_of {s : LS} {k : Nat} {o : One} (hs : grps s = G5) (ho : s.l[k]? = some o) : o.grp = G5.getD k 0 := by
  rw [← hs, List.getD_eq_getElem?_getD, grps_at, ho]; rfl
/-- one of the first group: both answer alike -/
theorem trip_own {s t : LS} (hs : grps s = G5) (ht : grps t = G5) (hS : Inv s) (hT : Inv t) (h : Alike1 s t) (k : Nat) (hk : k = 0 ∨ k = 2) (now : Int) : (trip s k now).1 = (trip t k now).1 ∧ Alike1 (trip s k now).2 (trip t k now).2 := by
  have hlk : s.l[k]? = t.l[k]? := by rcases hk with rfl | rfl; exact h.1; exact h.2.1
  obtain ⟨o, ho⟩ : ∃ o, s.l[k]? = some o := by
    obtain ⟨a, b, c, d, e, hl, _⟩ := five hs
    rw [hl]
    rcases hk with rfl | rfl
    · exact ⟨a, rfl⟩
    · exact ⟨c, rfl⟩
  have ho' : t.l[k]? = some o := by rw [← hlk]; exact ho
  have hg : o.grp = 1 := by rw [one_of hs ho]; rcases hk with rfl | rfl <;> rfl
  have hks : k < s.l.length := (List.getElem?_eq_some_iff.1 ho).1
  have hkt : k < t.l.length := (List.getElem?_eq_some_iff.1 ho').1
  have hset : ∀ x : One, (s.l.set k x)[0]? = (t.l.set k x)[0]? ∧ (s.l.set k x)[2]? = (t.l.set k x)[2]? := by
    intro x
    rcases hk with rfl | rfl
    · refine ⟨by rw [List.getElem?_set_self hks, List.getElem?_set_self hkt], ?_⟩
      rw [List.getElem?_set_ne (by decide), List.getElem?_set_ne (by decide)]; exact h.2.1
    · refine ⟨?_, by rw [List.getElem?_set_self hks, List.getElem?_set_self hkt]⟩
      rw [List.getElem?_set_ne (by decide), List.getElem?_set_ne (by decide)]; exact h.1
  by_cases hso : o.set = true
  · rw [trip_held ho hso, trip_held ho' hso]
    exact ⟨rfl, h⟩
  · have hso' : o.set = false := by simpa using hso
    have hl := lead1 hs ht hS hT h k now
    by_cases hle : leads s 1 k now
    · rw [trip_lead ho hso' (by rw [hg]; decide) (by rw [hg]; exact hle), trip_lead ho' hso' (by rw [hg]; decide) (by rw [hg]; exact hl.1 hle)]
      refine ⟨rfl, (hset _).1, (hset _).2, ?_⟩
      show upd s.first o.grp _ 1 = upd t.first o.grp _ 1
      rw [hg, upd_same, upd_same]
    · rw [trip_keep ho hso' (by rw [hg]; decide) (by rw [hg]; exact hle), trip_keep ho' hso' (by rw [hg]; decide) (by rw [hg]; exact fun h => hle (hl.2 h))]
      exact ⟨rfl, (hset _).1, (hset _).2, h.2.2⟩
theorem trip_far {s t : LS} (hs : grps s = G5) (h : Alike1 s t) (i now : Int) (hi : i ≠ 0 ∧ i ≠ 2) : Alike1 (trip s i now).2 t := by
  unfold trip
  rcases at_cases s i with ⟨_, e⟩ | ⟨k, o, rfl, ho, e⟩
  · rw [e]; exact h
  · rw [e]
    simp only [Int.toNat_natCast]
    have hk0 : k ≠ 0 := by omega
    have hk2 : k ≠ 2 := by omega
    have hg : o.grp ≠ 1 := by
      rw [one_of hs ho]
      match k, hk0, hk2 with
      | 1, _, _ => decide
      | 3, _, _ => decide
      | 4, _, _ => decide
      | n + 5, _, _ => simp [G5]
    by_cases hso : o.set = true
    · rw [if_pos hso]; exact h
    · rw [if_neg hso]
      refine ⟨?_, ?_, ?_⟩
      · show (s.l.set k _)[0]? = _
        rw [List.getElem?_set_ne hk0]; exact h.1
      · show (s.l.set k _)[2]? = _
        rw [List.getElem?_set_ne hk2]; exact h.2.1
      · simp only [tripped]
        by_cases hc : o.grp ≠ 0 ∧ leads s o.grp k now
        · rw [if_pos hc, upd_ne _ _ _ (Ne.symm hg)]; exact h.2.2
        · rw [if_neg hc]; exact h.2.2
theorem reset_own {s t : LS} (hs : grps s = G5) (h : Alike1 s t) (k : Nat) (hk : k = 0 ∨ k = 2) : (reset s k).1 = (reset t k).1 ∧ Alike1 (reset s k).2 (reset t k).2 := by
  have hlk : s.l[k]? = t.l[k]? := by rcases hk with rfl | rfl; exact h.1; exact h.2.1
  obtain ⟨o, ho⟩ : ∃ o, s.l[k]? = some o := by
    obtain ⟨a, b, c, d, e, hl, _⟩ := five hs
    rw [hl]
    rcases hk with rfl | rfl
    · exact ⟨a, rfl⟩
    · exact ⟨c, rfl⟩
  have ho' : t.l[k]? = some o := by rw [← hlk]; exact ho
  have hg : o.grp = 1 := by rw [one_of hs ho]; rcases hk with rfl | rfl <;> rfl
  have hks : k < s.l.length := (List.getElem?_eq_some_iff.1 ho).1
  have hkt : k < t.l.length := (List.getElem?_eq_some_iff.1 ho').1
  have hset : ∀ x : One, (s.l.set k x)[0]? = (t.l.set k x)[0]? ∧ (s.l.set k x)[2]? = (t.l.set k x)[2]? := by
    intro x
    rcases hk with rfl | rfl
    · refine ⟨by rw [List.getElem?_set_self hks, List.getElem?_set_self hkt], ?_⟩
      rw [List.getElem?_set_ne (by decide), List.getElem?_set_ne (by decide)]; exact h.2.1
    · refine ⟨?_, by rw [List.getElem?_set_self hks, List.getElem?_set_self hkt]⟩
      rw [List.getElem?_set_ne (by decide), List.getElem?_set_ne (by decide)]; exact h.1
  unfold reset
  rw [if_pos (by omega), if_pos (by omega), Int.toNat_natCast, ho, ho']
  by_cases hso : o.set = true
  · simp only [hso, if_true]
    refine ⟨trivial, (hset _).1, (hset _).2, ?_⟩
    simp only [cleared, hg]
    by_cases hf : s.first 1 = some (k : Int)
    · rw [if_pos ⟨by decide, hf⟩, if_pos ⟨by decide, by rw [← h.2.2]; exact hf⟩, upd_same, upd_same]
    · rw [if_neg (fun x => hf x.2), if_neg (fun x => hf (by rw [h.2.2]; exact x.2))]; exact h.2.2
  · simp only [hso, if_false, Bool.false_eq_true]
    exact ⟨trivial, h⟩
theorem reset_far {s t : LS} (hs : grps s = G5) (h : Alike1 s t) (i : Int) (hi : i ≠ 0 ∧ i ≠ 2) : Alike1 (reset s i).2 t := by
  unfold reset
  rcases at_cases s i with ⟨_, e⟩ | ⟨k, o, rfl, ho, e⟩
  · rw [e]; exact h
  · rw [e]
    simp only [Int.toNat_natCast]
    have hk0 : k ≠ 0 := by omega
    have hk2 : k ≠ 2 := by omega
    have hg : o.grp ≠ 1 := by
      rw [one_of hs ho]
      match k, hk0, hk2 with
      | 1, _, _ => decide
      | 3, _, _ => decide
      | 4, _, _ => decide
      | n + 5, _, _ => simp [G5]
    by_cases hso : o.set = true
    · rw [if_pos hso]
      refine ⟨?_, ?_, ?_⟩
      · show (s.l.set k _)[0]? = _
        rw [List.getElem?_set_ne hk0]; exact h.1
      · show (s.l.set k _)[2]? = _
        rw [List.getElem?_set_ne hk2]; exact h.2.1
      · simp only [cleared]
        by_cases hc : o.grp ≠ 0 ∧ s.first o.grp = some (k : Int)
        · rw [if_pos hc, upd_ne _ _ _ (Ne.symm hg)]; exact h.2.2
        · rw [if_neg hc]; exact h.2.2
    · rw [if_neg hso]; exact h
theorem alike_at {s t : LS} (hs : grps s = G5) (h : Alike1 s t) (k : Nat) (hk : k = 0 ∨ k = 2) : atL s k = atL t k := by
  have hlk : s.l[k]? = t.l[k]? := by rcases hk with rfl | rfl; exact h.1; exact h.2.1
  unfold atL
  rw [if_pos (by omega), if_pos (by omega), Int.toNat_natCast, ← hlk]
  rcases ho : s.l[k]? with _ | o
  · rfl
  · show seen s.first k o = seen t.first k o
    have hg : o.grp = 1 := by rw [one_of hs ho]; rcases hk with rfl | rfl <;> rfl
    unfold seen
    rw [hg, h.2.2]
theorem reset_own' {s t : LS} (hs : grps s = G5) (h : Alike1 s t) (i : Int) (hi : i = 0 ∨ i = 2) : (reset s i).1 = (reset t i).1 ∧ Alike1 (reset s i).2 (reset t i).2 := by
  rcases hi with rfl | rfl
  · exact reset_own hs h 0 (.inl rfl)
  · exact reset_own hs h 2 (.inr rfl)
theorem trip_own' {s t : LS} (hs : grps s = G5) (ht : grps t = G5) (hS : Inv s) (hT : Inv t) (h : Alike1 s t) (i : Int) (hi : i = 0 ∨ i = 2) (now : Int) : (trip s i now).1 = (trip t i now).1 ∧ Alike1 (trip s i now).2 (trip t i now).2 := by
  rcases hi with rfl | rfl
  · exact trip_own hs ht hS hT h 0 (.inl rfl) now
  · exact trip_own hs ht hS hT h 2 (.inr rfl) now
/-! ### the walk -/
theorem LAt.low {B B' g m1 m2 N : Nat} {v : Value} {s : LS} {w : World} (h : LAt B g v m1 m2 N s w) (hB : B' ≤ B) : LAt B' g v m1 m2 N s w := by
  refine ⟨⟨h.1.1, ⟨h.1.2.1.1, ?_⟩, h.1.2.2⟩, ⟨h.2.1.1, by have := h.2.1; omega, by have := h.2.1; omega, by have := h.2.1; omega⟩, h.2.2⟩
  rcases h.1.2.1.2 with hn | ⟨b, cap, cur, rfl, hb, rest⟩
  · exact .inl hn
  · exact .inr ⟨b, cap, cur, rfl, Nat.le_trans hB hb, rest⟩
/-- both rows of latches -/
structure AP (B gx : Nat) (vx : Value) (x1 x2 gy : Nat) (vy : Value) (y1 y2 N : Nat) (s t : LS) (w w' : World) : Prop where
  x : LAt B gx vx x1 x2 N s w'
  y : LAt B gy vy y1 y2 N t w'
  sep : Sep gx vx x1 x2 gy vy y1 y2
  gs : grps s = G5 ∧ grps t = G5
  inv : Inv s ∧ Inv t
  below : Below B w w' ∧ B ≤ w'.heap.size
theorem five_le {s : LS} (h : grps s = G5) : s.l.length ≤ 1000000 := by
  have := congrArg List.length h
  simp [grps, G5] at this
  omega
section
variable {B gx x1 x2 gy y1 y2 N : Nat} {vx vy : Value} {s t : LS} {w w1 : World}
theorem AP.mono (h : AP B gx vx x1 x2 gy vy y1 y2 N s t w w1) {N' : Nat} (hN : N ≤ N') : AP B gx vx x1 x2 gy vy y1 y2 N' s t w w1 := ⟨h.x.mono hN, h.y.mono hN, h.sep, h.gs, h.inv, h.below⟩
theorem AP.alloc (h : AP B gx vx x1 x2 gy vy y1 y2 N s t w w1) (o : Obj) : AP B gx vx x1 x2 gy vy y1 y2 N s t w (w1.alloc o) :=
  ⟨h.x.below ((Below.refl _ _).alloc (Nat.le_refl _) _), h.y.below ((Below.refl _ _).alloc (Nat.le_refl _) _), h.sep, h.gs, h.inv, h.below.1.alloc h.below.2 o, by have := h.below.2; simp; omega⟩
theorem AP.size (h : AP B gx vx x1 x2 gy vy y1 y2 N s t w w1) {w' : World} (hb : Below w1.heap.size w1 w') : AP B gx vx x1 x2 gy vy y1 y2 N s t w w' :=
  ⟨h.x.below hb, h.y.below hb, h.sep, h.gs, h.inv, h.below.1.trans (hb.mono h.below.2), Nat.le_trans h.below.2 hb.size⟩
/-- the cells of a block that is neither's -/
def Keeps (w1 w' : World) : Prop := ∀ (k : Nat) (cs : Array Value), w1.heap[k]? = some (Obj.cells cs 32 (0, 0)) → w'.heap[k]? = some (Obj.cells cs 32 (0, 0))
theorem x_trip (h : AP B gx vx x1 x2 gy vy y1 y2 N s t w w1) (hN : N < 1000000) (i now : Int) : Calls Try.prog 14 #[.pointer (some ⟨gx, 0, none⟩), .int .i64 i, .int .i64 now] w1 fun e w' => e = .returned (.bool (trip s i now).1) ∧ AP B gx vx x1 x2 gy vy y1 y2 (N + 2) (trip s i now).2 t w w' ∧ Keeps w1 w' := by
  refine (trip_any B gx vx x1 x2 N s w1 h.x hN h.inv.1 (five_le h.gs.1) i now).mono ?_
  rintro e w' ⟨h1, h2, h3⟩
  exact ⟨h1, ⟨h2, (h.x.sep h.y h.sep h3).mono (by omega), h.sep, ⟨by rw [grps_trip]; exact h.gs.1, h.gs.2⟩, ⟨inv_trip h.inv.1 i now, h.inv.2⟩, h.below.1.trans (h.x.foot h3 h.below.2), Nat.le_trans h.below.2 h3.size⟩, fun k cs hk => h.x.far h3 hk (by decide) (by decide)⟩
theorem y_trip (h : AP B gx vx x1 x2 gy vy y1 y2 N s t w w1) (hN : N < 1000000) (i now : Int) : Calls Try.prog 14 #[.pointer (some ⟨gy, 0, none⟩), .int .i64 i, .int .i64 now] w1 fun e w' => e = .returned (.bool (trip t i now).1) ∧ AP B gx vx x1 x2 gy vy y1 y2 (N + 2) s (trip t i now).2 w w' := by
  refine (trip_any B gy vy y1 y2 N t w1 h.y hN h.inv.2 (five_le h.gs.2) i now).mono ?_
  rintro e w' ⟨h1, h2, h3⟩
  exact ⟨h1, ⟨(h.y.sep h.x h.sep.flip h3).mono (by omega), h2, h.sep, ⟨h.gs.1, by rw [grps_trip]; exact h.gs.2⟩, ⟨h.inv.1, inv_trip h.inv.2 i now⟩, h.below.1.trans (h.y.foot h3 h.below.2), Nat.le_trans h.below.2 h3.size⟩⟩
theorem x_reset (h : AP B gx vx x1 x2 gy vy y1 y2 N s t w w1) (hN : N < 1000000) (i : Int) : Calls Try.prog 10 #[.pointer (some ⟨gx, 0, none⟩), .int .i64 i] w1 fun e w' => e = .returned (.bool (reset s i).1) ∧ AP B gx vx x1 x2 gy vy y1 y2 (N + 2) (reset s i).2 t w w' ∧ Keeps w1 w' := by
  refine (reset_any B gx vx x1 x2 N s w1 h.x hN h.inv.1 (five_le h.gs.1) i).mono ?_
  rintro e w' ⟨h1, h2, h3⟩
  exact ⟨h1, ⟨h2, (h.x.sep h.y h.sep h3).mono (by omega), h.sep, ⟨by rw [grps_reset]; exact h.gs.1, h.gs.2⟩, ⟨inv_reset h.inv.1 i, h.inv.2⟩, h.below.1.trans (h.x.foot h3 h.below.2), Nat.le_trans h.below.2 h3.size⟩, fun k cs hk => h.x.far h3 hk (by decide) (by decide)⟩
theorem y_reset (h : AP B gx vx x1 x2 gy vy y1 y2 N s t w w1) (hN : N < 1000000) (i : Int) : Calls Try.prog 10 #[.pointer (some ⟨gy, 0, none⟩), .int .i64 i] w1 fun e w' => e = .returned (.bool (reset t i).1) ∧ AP B gx vx x1 x2 gy vy y1 y2 (N + 2) s (reset t i).2 w w' := by
  refine (reset_any B gy vy y1 y2 N t w1 h.y hN h.inv.2 (five_le h.gs.2) i).mono ?_
  rintro e w' ⟨h1, h2, h3⟩
  exact ⟨h1, ⟨(h.y.sep h.x h.sep.flip h3).mono (by omega), h2, h.sep, ⟨h.gs.1, by rw [grps_reset]; exact h.gs.2⟩, ⟨h.inv.1, inv_reset h.inv.2 i⟩, h.below.1.trans (h.y.foot h3 h.below.2), Nat.le_trans h.below.2 h3.size⟩⟩
theorem x_first (h : AP B gx vx x1 x2 gy vy y1 y2 N s t w w1) : Calls Try.prog 21 #[.pointer (some ⟨gx, 0, none⟩), .int .i64 1] w1 fun e w' => e = .returned (.tuple #[.int .i64 ((s.first 1).getD 0), .bool (s.first 1).isSome]) ∧ w1 = w' := First_any B gx vx x1 x2 N s w1 h.x 1 ⟨by decide, by decide⟩
theorem y_first (h : AP B gx vx x1 x2 gy vy y1 y2 N s t w w1) : Calls Try.prog 21 #[.pointer (some ⟨gy, 0, none⟩), .int .i64 1] w1 fun e w' => e = .returned (.tuple #[.int .i64 ((t.first 1).getD 0), .bool (t.first 1).isSome]) ∧ w1 = w' := First_any B gy vy y1 y2 N t w1 h.y 1 ⟨by decide, by decide⟩
theorem x_at (h : AP B gx vx x1 x2 gy vy y1 y2 N s t w w1) (i : Int) : Calls Try.prog 16 #[.pointer (some ⟨gx, 0, none⟩), .int .i64 i] w1 fun e w' => e = .returned (latV (atL s i)) ∧ AP B gx vx x1 x2 gy vy y1 y2 N s t w w' := by
  refine (At_any B gx vx x1 x2 N s w1 h.x i).mono ?_
  rintro e w' ⟨rfl, hb⟩
  exact ⟨rfl, h.size hb⟩
theorem y_at (h : AP B gx vx x1 x2 gy vy y1 y2 N s t w w1) (i : Int) : Calls Try.prog 16 #[.pointer (some ⟨gy, 0, none⟩), .int .i64 i] w1 fun e w' => e = .returned (latV (atL t i)) ∧ AP B gx vx x1 x2 gy vy y1 y2 N s t w w' := by
  refine (At_any B gy vy y1 y2 N t w1 h.y i).mono ?_
  rintro e w' ⟨rfl, hb⟩
  exact ⟨rfl, h.size hb⟩
end
theorem fits5 : ∀ x ∈ G5, Fit64 x := by
  intro x hx
  have h : x = 1 ∨ x = 2 ∨ x = 0 := by simp [G5] at hx; omega
  rcases h with rfl | rfl | rfl <;> exact ⟨by decide, by decide⟩
theorem nums5 (w : World) : NumsAt (w.alloc (.cells #[.int .i64 1, .int .i64 2, .int .i64 1, .int .i64 2, .int .i64 0] 3)) G5 (.slice (some ⟨w.heap.size, 0, none⟩) 5 5) := by
  refine ⟨some ⟨w.heap.size, 0, none⟩, 5, rfl, by decide, fun _ => ⟨w.heap.size, 0, rfl, by simp, fun i x hi d u hu => ?_⟩⟩
  have hb := heap_alloc_new w (.cells #[.int .i64 1, .int .i64 2, .int .i64 1, .int .i64 2, .int .i64 0] 3)
  have hi4 : i < 5 := (List.getElem?_eq_some_iff.1 hi).1
  have hd : d = 0 := by have := (List.getElem?_eq_some_iff.1 hu).1; simp at this; omega
  subst hd
  rw [cell_of_row _ _ _ _ _ _ hb]
  have h4 : i = 0 ∨ i = 1 ∨ i = 2 ∨ i = 3 ∨ i = 4 := by omega
  unfold G5 at hi
  rcases h4 with rfl | rfl | rfl | rfl | rfl <;> simp_all
set_option maxHeartbeats 4000000 in
set_option maxRecDepth 100000 in
theorem apart_walk (l : List LOp) (v : Value) (w : World) (h : OpsAt w l v) (hp : ∀ o ∈ l, LatsAt w o.L o.vL) (hll : l.length ≤ maxLen) :
    Calls Try.prog 5 #[v] w fun e w' => e = .returned (.bool true) ∧ Below w.heap.size w w' := by
  have hv := h
  obtain ⟨A, c, rfl, hc, -⟩ := hv
  have H := Lib.hid h
  have HP := Lib.hid hp
  unfold maxLen at hll
  clear h hp
  have hnil := fun (w : World) (p : Option Addr) => run_eql_pointer_nil (P := Try.prog) w 25 p (by kernel_rfl)
  have hnn := fun (w : World) (p : Option Addr) => run_neq_pointer_nil (P := Try.prog) w 25 p (by kernel_rfl)
  go_enter Try.func5, Try.ntmps5
  go_wp2_with fail
  refine (head_walk _).mono ?_
  rintro e w1 ⟨rfl, hb1⟩
  have HB1 := Lib.hid hb1
  clear hb1
  go_wp2_with fail
  have HN := Lib.hid (nums5 w1)
  have HB2 := Lib.hid (HB1.out.alloc HB1.out.size (.cells #[.int .i64 1, .int .i64 2, .int .i64 1, .int .i64 2, .int .i64 0] 3))
  have hs2 : w.heap.size ≤ (w1.alloc (.cells #[.int .i64 1, .int .i64 2, .int .i64 1, .int .i64 2, .int .i64 0] 3)).heap.size := HB2.out.size
  generalize w1.alloc (.cells #[.int .i64 1, .int .i64 2, .int .i64 1, .int .i64 2, .int .i64 0] 3) = w2 at *
  generalize w1.heap.size = q1 at *
  refine (New_any G5 _ w2 HN.out fits5 (by decide)).mono ?_
  rintro e w3 ⟨gx, vx, x1, x2, rfl, hx, hb3⟩
  have HX := Lib.hid hx
  have HB3 := Lib.hid hb3
  clear hx hb3
  go_wp2_with fail
  refine (New_any G5 _ w3 (LawFrame.RowsAt.below HN.out HB3.out) fits5 (by decide)).mono ?_
  rintro e w4 ⟨gy, vy, y1, y2, rfl, hy, hb4⟩
  have hA : AP w2.heap.size gx vx x1 x2 gy vy y1 y2 0 (fresh G5) (fresh G5) w2 w4 :=
    ⟨HX.out.below hb4, hy.low HB3.out.size, sep_made HX.out hy (Nat.le_refl _), ⟨grps_fresh _, grps_fresh _⟩, ⟨inv_fresh _, inv_fresh _⟩, HB3.out.trans (hb4.mono HB3.out.size), Nat.le_trans HB3.out.size hb4.size⟩
  have HA := Lib.hid hA
  have hpp := HB3.out.size
  clear hA hy hb4 HX HB3 HN
  go_wp2_with fail
  refine (great_any _ 5 5 l _ w4 (by omega) (LawFrame.RowsAt.below H.out (HB2.out.trans (HA.out.below.1.mono hs2))) (fun o ho => LawFrame.RowsAt.below (HP.out o ho) (HB2.out.trans (HA.out.below.1.mono hs2))) (by omega)).mono ?_
  rintro e w5 ⟨⟨gr, rfl, hgr⟩, rfl⟩
  rcases gr with _ | _
  · obtain ⟨hl2, -⟩ := hgr rfl
    have hK : Alike1 (fresh G5) (fresh G5) := ⟨rfl, rfl, rfl⟩
    go_wp2_with fail
    go_loopw [7] (fun i wr => ∃ (k : Nat) (s t : LS), k ≤ l.length ∧ i = .int .i64 k ∧ Hid (Alike1 s t) ∧ Hid (AP w2.heap.size gx vx x1 x2 gy vy y1 y2 (4 * k) s t w2 wr)) (fun i _ => l.length - (intOf i).toNat)
    case atStart => exact ⟨0, _, _, Nat.zero_le _, rfl, hK, HA.out⟩
    case round =>
      clear HA hK
      obtain ⟨k, s, t, hk, rfl, HK, HA⟩ := hrel
      by_cases hlt : k < l.length
      · obtain ⟨o, hx⟩ : ∃ o, l[k]? = some o := ⟨_, List.getElem?_eq_getElem hlt⟩
        obtain ⟨bb, off', c', hv, hbl, hcell⟩ := H.out.at_ hx
        have hbw := HB2.out.trans (HA.out.below.1.mono hs2)
        obtain ⟨AL, cL, hvL, hcL, -⟩ := HP.out o (List.mem_of_getElem? hx)
        have e0 := (hbw.cell (p := ⟨bb, off' + k * 4 + 0, none⟩) hbl).trans (hcell 0 _ rfl)
        have e1 := (hbw.cell (p := ⟨bb, off' + k * 4 + 1, none⟩) hbl).trans (hcell 1 _ rfl)
        have e2 := (hbw.cell (p := ⟨bb, off' + k * 4 + 2, none⟩) hbl).trans (hcell 2 _ rfl)
        have e3 := (hbw.cell (p := ⟨bb, off' + k * 4 + 3, none⟩) hbl).trans (hcell 3 _ rfl)
        rw [hvL] at e3
        simp only [Nat.add_zero] at e0
        injection hv with hA e4 e5
        subst hA
        clear e4 e5
        obtain ⟨wh, oi, now, vL, L⟩ := o
        simp only at e0 e1 e2 e3
        clear hcell hx hvL hbw
        have HA1 := Lib.hid (HA.out.alloc (.cells #[.int .i64 wh, .int .i64 oi, .int .i64 now, .slice AL L.length cL] 32))
        have hbox : (wr.alloc (.cells #[.int .i64 wh, .int .i64 oi, .int .i64 now, .slice AL L.length cL] 32)).heap[wr.heap.size]? = some (Obj.cells #[.int .i64 wh, .int .i64 oi, .int .i64 now, .slice AL L.length cL] 32 (0, 0)) := heap_alloc_new _ _
        have HBX := Lib.hid hbox
        clear hbox
        have hcs : oi = 0 ∨ oi = 2 ∨ (oi ≠ 0 ∧ oi ≠ 2) := by omega
        rcases hcs with rfl | rfl | hi
        · -- 0
          go_upto_if 62 with fail
          go_cut [] (fun wx => ∃ s' t', Hid (Alike1 s' t') ∧ Hid (AP w2.heap.size gx vx x1 x2 gy vy y1 y2 (4 * k + 4) s' t' w2 wx))
          case first =>
            by_cases hwh : wh = 3
            · subst hwh
              go_wp2_with fail
              refine (x_reset HA1.out (by omega) 0).mono ?_
              rintro e w6 ⟨rfl, h, hkp⟩
              have HA2 := Lib.hid h
              have hb2 := hkp _ _ HBX.out
              have b1 : w6.cell? ⟨wr.heap.size, 1, none⟩ = some (.int .i64 0) := cell_of_row _ _ _ _ _ _ hb2
              clear h hkp HA1 HBX hb2
              go_wp2_with fail
              refine (y_reset HA2.out (by omega) 0).mono ?_
              rintro e w7 ⟨rfl, h⟩
              have HE := reset_own' HA.out.gs.1 HK.out 0 (.inl rfl)
              rw [← HE.1]
              have HK2 := Lib.hid HE.2
              have HA3 := Lib.hid (h.mono (show 4 * k + 2 + 2 ≤ 4 * k + 4 by omega))
              clear h HA2 b1 HE
              generalize (reset s 0).1 = r at *
              go_wp2_with fail
              go_meet
              exact ⟨_, _, HK2, HA3⟩
            · have hwb : (wh == 3) = false := by simp [hwh]
              go_wp2_with fail
              refine (x_trip HA1.out (by omega) 0 now).mono ?_
              rintro e w6 ⟨rfl, h, hkp⟩
              have HA2 := Lib.hid h
              have hb2 := hkp _ _ HBX.out
              have b1 : w6.cell? ⟨wr.heap.size, 1, none⟩ = some (.int .i64 0) := cell_of_row _ _ _ _ _ _ hb2
              have b2 : w6.cell? ⟨wr.heap.size, 2, none⟩ = some (.int .i64 now) := cell_of_row _ _ _ _ _ _ hb2
              clear h hkp HA1 HBX hb2
              go_wp2_with fail
              refine (y_trip HA2.out (by omega) 0 now).mono ?_
              rintro e w7 ⟨rfl, h⟩
              have HE := trip_own' HA.out.gs.1 HA.out.gs.2 HA.out.inv.1 HA.out.inv.2 HK.out 0 (.inl rfl) now
              rw [← HE.1]
              have HK2 := Lib.hid HE.2
              have HA3 := Lib.hid (h.mono (show 4 * k + 2 + 2 ≤ 4 * k + 4 by omega))
              clear h HA2 b1 b2 HE
              generalize (trip s 0 now).1 = r at *
              go_wp2_with fail
              go_meet
              exact ⟨_, _, HK2, HA3⟩
          case rest =>
            obtain ⟨s', t', HK2, HA2⟩ := hcut
            clear e0 e1 e2 e3 HA1 HBX HA HK
            go_wp2_with fail
            refine (x_first HA2.out).mono ?_
            rintro e w9 ⟨rfl, rfl⟩
            go_wp2_with fail
            refine (y_first HA2.out).mono ?_
            rintro e w9 ⟨rfl, rfl⟩
            rw [← HK2.out.2.2]
            generalize (s'.first 1).getD 0 = q2 at *
            generalize (s'.first 1).isSome = q3 at *
            go_wp2_with fail
            refine (x_at HA2.out 0).mono ?_
            rintro e w10 ⟨rfl, h⟩
            have HA6 := Lib.hid h
            clear h
            have HX0 := Lib.hid (alike_at HA2.out.gs.1 HK2.out 0 (.inl rfl))
            have HX2 := Lib.hid (alike_at HA2.out.gs.1 HK2.out 2 (.inr rfl))
            clear HA2
            have hz0 : atL s' 0 = atL s' ((0 : Nat) : Int) := rfl
            unfold latV
            go_wp2_with fail
            refine (y_at HA6.out 0).mono ?_
            rintro e w11 ⟨rfl, h⟩
            have HA7 := Lib.hid h
            clear h HA6
            rw [show atL t' 0 = atL s' 0 from HX0.out.symm]
            unfold latV
            generalize atL s' 0 = z0 at *
            obtain ⟨za, zb, zc⟩ := z0
            go_wp2_with fail
            refine (x_at HA7.out 2).mono ?_
            rintro e w12 ⟨rfl, h⟩
            have HA8 := Lib.hid h
            clear h HA7
            unfold latV
            go_wp2_with fail
            refine (y_at HA8.out 2).mono ?_
            rintro e w13 ⟨rfl, h⟩
            have HA9 := Lib.hid h
            clear h HA8
            rw [show atL t' 2 = atL s' 2 from HX2.out.symm]
            unfold latV
            generalize atL s' 2 = z2 at *
            obtain ⟨zd, ze, zf⟩ := z2
            go_wp2_with fail
            go_roundw
            case rel => exact ⟨k + 1, s', t', by omega, by go_num, HK2, HA9⟩
            case measure => simp [intOf]; omega
        · -- 2
          go_upto_if 62 with fail
          go_cut [] (fun wx => ∃ s' t', Hid (Alike1 s' t') ∧ Hid (AP w2.heap.size gx vx x1 x2 gy vy y1 y2 (4 * k + 4) s' t' w2 wx))
          case first =>
            by_cases hwh : wh = 3
            · subst hwh
              go_wp2_with fail
              refine (x_reset HA1.out (by omega) 2).mono ?_
              rintro e w6 ⟨rfl, h, hkp⟩
              have HA2 := Lib.hid h
              have hb2 := hkp _ _ HBX.out
              have b1 : w6.cell? ⟨wr.heap.size, 1, none⟩ = some (.int .i64 2) := cell_of_row _ _ _ _ _ _ hb2
              clear h hkp HA1 HBX hb2
              go_wp2_with fail
              refine (y_reset HA2.out (by omega) 2).mono ?_
              rintro e w7 ⟨rfl, h⟩
              have HE := reset_own' HA.out.gs.1 HK.out 2 (.inr rfl)
              rw [← HE.1]
              have HK2 := Lib.hid HE.2
              have HA3 := Lib.hid (h.mono (show 4 * k + 2 + 2 ≤ 4 * k + 4 by omega))
              clear h HA2 b1 HE
              generalize (reset s 2).1 = r at *
              go_wp2_with fail
              go_meet
              exact ⟨_, _, HK2, HA3⟩
            · have hwb : (wh == 3) = false := by simp [hwh]
              go_wp2_with fail
              refine (x_trip HA1.out (by omega) 2 now).mono ?_
              rintro e w6 ⟨rfl, h, hkp⟩
              have HA2 := Lib.hid h
              have hb2 := hkp _ _ HBX.out
              have b1 : w6.cell? ⟨wr.heap.size, 1, none⟩ = some (.int .i64 2) := cell_of_row _ _ _ _ _ _ hb2
              have b2 : w6.cell? ⟨wr.heap.size, 2, none⟩ = some (.int .i64 now) := cell_of_row _ _ _ _ _ _ hb2
              clear h hkp HA1 HBX hb2
              go_wp2_with fail
              refine (y_trip HA2.out (by omega) 2 now).mono ?_
              rintro e w7 ⟨rfl, h⟩
              have HE := trip_own' HA.out.gs.1 HA.out.gs.2 HA.out.inv.1 HA.out.inv.2 HK.out 2 (.inr rfl) now
              rw [← HE.1]
              have HK2 := Lib.hid HE.2
              have HA3 := Lib.hid (h.mono (show 4 * k + 2 + 2 ≤ 4 * k + 4 by omega))
              clear h HA2 b1 b2 HE
              generalize (trip s 2 now).1 = r at *
              go_wp2_with fail
              go_meet
              exact ⟨_, _, HK2, HA3⟩
          case rest =>
            obtain ⟨s', t', HK2, HA2⟩ := hcut
            clear e0 e1 e2 e3 HA1 HBX HA HK
            go_wp2_with fail
            refine (x_first HA2.out).mono ?_
            rintro e w9 ⟨rfl, rfl⟩
            go_wp2_with fail
            refine (y_first HA2.out).mono ?_
            rintro e w9 ⟨rfl, rfl⟩
            rw [← HK2.out.2.2]
            generalize (s'.first 1).getD 0 = q2 at *
            generalize (s'.first 1).isSome = q3 at *
            go_wp2_with fail
            refine (x_at HA2.out 0).mono ?_
            rintro e w10 ⟨rfl, h⟩
            have HA6 := Lib.hid h
            clear h
            have HX0 := Lib.hid (alike_at HA2.out.gs.1 HK2.out 0 (.inl rfl))
            have HX2 := Lib.hid (alike_at HA2.out.gs.1 HK2.out 2 (.inr rfl))
            clear HA2
            have hz0 : atL s' 0 = atL s' ((0 : Nat) : Int) := rfl
            unfold latV
            go_wp2_with fail
            refine (y_at HA6.out 0).mono ?_
            rintro e w11 ⟨rfl, h⟩
            have HA7 := Lib.hid h
            clear h HA6
            rw [show atL t' 0 = atL s' 0 from HX0.out.symm]
            unfold latV
            generalize atL s' 0 = z0 at *
            obtain ⟨za, zb, zc⟩ := z0
            go_wp2_with fail
            refine (x_at HA7.out 2).mono ?_
            rintro e w12 ⟨rfl, h⟩
            have HA8 := Lib.hid h
            clear h HA7
            unfold latV
            go_wp2_with fail
            refine (y_at HA8.out 2).mono ?_
            rintro e w13 ⟨rfl, h⟩
            have HA9 := Lib.hid h
            clear h HA8
            rw [show atL t' 2 = atL s' 2 from HX2.out.symm]
            unfold latV
            generalize atL s' 2 = z2 at *
            obtain ⟨zd, ze, zf⟩ := z2
            go_wp2_with fail
            go_roundw
            case rel => exact ⟨k + 1, s', t', by omega, by go_num, HK2, HA9⟩
            case measure => simp [intOf]; omega
        · -- another one
          have ho0 : (oi == 0) = false := by simpa using hi.1
          have ho2 : (oi == 2) = false := by simpa using hi.2
          have HI := Lib.hid hi
          clear hi
          go_upto_if 62 with fail
          go_cut [] (fun wx => ∃ s' t', Hid (Alike1 s' t') ∧ Hid (AP w2.heap.size gx vx x1 x2 gy vy y1 y2 (4 * k + 4) s' t' w2 wx))
          case first =>
            by_cases hwh : wh = 3
            · subst hwh
              go_wp2_with fail
              refine (x_reset HA1.out (by omega) oi).mono ?_
              rintro e w6 ⟨rfl, h, hkp⟩
              have HK2 := Lib.hid (reset_far HA.out.gs.1 HK.out oi HI.out)
              have HA3 := Lib.hid (h.mono (show 4 * k + 2 ≤ 4 * k + 4 by omega))
              clear h hkp HA1 HBX
              go_wp2_with fail
              go_meet
              exact ⟨_, _, HK2, HA3⟩
            · have hwb : (wh == 3) = false := by simp [hwh]
              go_wp2_with fail
              refine (x_trip HA1.out (by omega) oi now).mono ?_
              rintro e w6 ⟨rfl, h, hkp⟩
              have HK2 := Lib.hid (trip_far HA.out.gs.1 HK.out oi now HI.out)
              have HA3 := Lib.hid (h.mono (show 4 * k + 2 ≤ 4 * k + 4 by omega))
              clear h hkp HA1 HBX
              go_wp2_with fail
              go_meet
              exact ⟨_, _, HK2, HA3⟩
          case rest =>
            obtain ⟨s', t', HK2, HA2⟩ := hcut
            clear e0 e1 e2 e3 HA1 HBX HA HK
            go_wp2_with fail
            refine (x_first HA2.out).mono ?_
            rintro e w9 ⟨rfl, rfl⟩
            go_wp2_with fail
            refine (y_first HA2.out).mono ?_
            rintro e w9 ⟨rfl, rfl⟩
            rw [← HK2.out.2.2]
            generalize (s'.first 1).getD 0 = q2 at *
            generalize (s'.first 1).isSome = q3 at *
            go_wp2_with fail
            refine (x_at HA2.out 0).mono ?_
            rintro e w10 ⟨rfl, h⟩
            have HA6 := Lib.hid h
            clear h
            have HX0 := Lib.hid (alike_at HA2.out.gs.1 HK2.out 0 (.inl rfl))
            have HX2 := Lib.hid (alike_at HA2.out.gs.1 HK2.out 2 (.inr rfl))
            clear HA2
            have hz0 : atL s' 0 = atL s' ((0 : Nat) : Int) := rfl
            unfold latV
            go_wp2_with fail
            refine (y_at HA6.out 0).mono ?_
            rintro e w11 ⟨rfl, h⟩
            have HA7 := Lib.hid h
            clear h HA6
            rw [show atL t' 0 = atL s' 0 from HX0.out.symm]
            unfold latV
            generalize atL s' 0 = z0 at *
            obtain ⟨za, zb, zc⟩ := z0
            go_wp2_with fail
            refine (x_at HA7.out 2).mono ?_
            rintro e w12 ⟨rfl, h⟩
            have HA8 := Lib.hid h
            clear h HA7
            unfold latV
            go_wp2_with fail
            refine (y_at HA8.out 2).mono ?_
            rintro e w13 ⟨rfl, h⟩
            have HA9 := Lib.hid h
            clear h HA8
            rw [show atL t' 2 = atL s' 2 from HX2.out.symm]
            unfold latV
            generalize atL s' 2 = z2 at *
            obtain ⟨zd, ze, zf⟩ := z2
            go_wp2_with fail
            go_roundw
            case rel => exact ⟨k + 1, s', t', by omega, by go_num, HK2, HA9⟩
            case measure => simp [intOf]; omega
      · go_wp2_with fail
        go_ret
        exact ⟨rfl, HB2.out.trans (HA.out.below.1.mono hs2)⟩
  · go_wp2_with fail
    go_ret
    exact ⟨rfl, HB2.out.trans (HA.out.below.1.mono hs2)⟩
set_option maxRecDepth 100000 in
theorem apart_lifted (os : Os) (started : os.Started) (H : Type) (enc : TypeId × Value → H) :
    ReturnsInHanded {} Try.checked os 5 .any (Rows.latchApartSpec.pre6 enc Try.prog Try.f5 Rows.latchApartRow.domain false) (Rows.latchApartSpec.post enc Try.prog Try.f5 false true false false) := by
  refine LawFrame.handed (C := Try.checked) (tb := 4) (by kernel_rfl) (by kernel_rfl) (by kernel_rfl) Try.underlying4 rfl (fun ds hd => ?_) own started (by kernel_rfl) Try.func5
    (ChangeSpec.witness6 (enc := enc) (C := Try.checked) false ⟨#[], #[.slice none 0 0], []⟩ 8 (by kernel_rfl) (by kernel_rfl) (by kernel_rfl) (by kernel_rfl)) ?_
  · rw [Try.params5] at hd
    match ds, hd with
    | [d1], _ => rfl
  · intro W args ds before base hval hA hlt hsz
    rw [Try.params5] at hval hA
    obtain ⟨v0, vs0, d0, ds0, p0, q0, hargs, rfl, rfl, h0, r0⟩ := trodAll_cons hA
    obtain ⟨rfl, rfl, rfl⟩ := trodAll_nil r0
    obtain rfl : args = #[v0] := by cases args; simp_all
    obtain ⟨l, hl, hp, hn⟩ := open_ops (hval 0 23 v0 rfl rfl) h0
    exact apart_walk l v0 W hl hp hn
theorem apart_holds : Rows.LatchApartSaid :=
  OpenClaim.holds_of_wide 5 Try.f5 rfl rfl rfl rfl rfl rfl rfl ⟨rfl, rfl, rfl, rfl, rfl⟩ rfl rfl rfl rfl rfl (by kernel_rfl) Try.func5 (by kernel_rfl)
    (of_decide_eq_true (by kernel_rfl)) (by unfold Func.isWrapper; first | (rw [if_pos (by decide +kernel)]; kernel_rfl) | (rw [if_neg (by decide +kernel)]; exact ⟨rfl, rfl⟩))
    (fun os started H enc _ => apart_lifted os started H enc)
#print axioms apart_holds
end Go.Proofs.Ytcaobjmngdlklaa
