/-
  What polls are: one a device at most, from the first place of its points to the last one.
-/
import Derived.Test.YtbpenoelmangkaaLawMorePlain
namespace Go.Proofs.Ytbpenoelmangkaa
open Go.RowKit
theorem loOf_le (ps : List Pt) : ∀ (l : List Int) (a : Int), l.foldl (fun a i => min a (placeOf ps i)) a ≤ a
  | [], _ => Int.le_refl _
  | x :: l, a => Int.le_trans (loOf_le ps l _) (Int.min_le_left _ _)
theorem loOf_mem (ps : List Pt) {i : Int} : ∀ (l : List Int) (a : Int), i ∈ l → l.foldl (fun a i => min a (placeOf ps i)) a ≤ placeOf ps i
  | [], _, h => by cases h
  | x :: l, a, h => by
    rcases List.mem_cons.1 h with rfl | h
    · exact Int.le_trans (loOf_le ps l _) (Int.min_le_right _ _)
    · exact loOf_mem ps l _ h
theorem loOf_one (ps : List Pt) : ∀ (l : List Int) (a : Int), l.foldl (fun a i => min a (placeOf ps i)) a = a ∨ ∃ i ∈ l, l.foldl (fun a i => min a (placeOf ps i)) a = placeOf ps i
  | [], _ => .inl rfl
  | x :: l, a => by
    rcases loOf_one ps l (min a (placeOf ps x)) with h | ⟨i, hi, h⟩
    · simp only [List.foldl_cons]
      rw [h]
      rcases Int.le_total a (placeOf ps x) with h1 | h1
      · exact .inl (by omega)
      · exact .inr ⟨x, by simp, by omega⟩
    · exact .inr ⟨i, by simp [hi], h⟩
theorem hiOf_le (ps : List Pt) : ∀ (l : List Int) (a : Int), a ≤ l.foldl (fun a i => max a (placeOf ps i)) a
  | [], _ => Int.le_refl _
  | x :: l, a => Int.le_trans (Int.le_max_left _ _) (hiOf_le ps l _)
theorem hiOf_mem (ps : List Pt) {i : Int} : ∀ (l : List Int) (a : Int), i ∈ l → placeOf ps i ≤ l.foldl (fun a i => max a (placeOf ps i)) a
  | [], _, h => by cases h
  | x :: l, a, h => by
    rcases List.mem_cons.1 h with rfl | h
    · exact Int.le_trans (Int.le_max_right _ _) (hiOf_le ps l _)
    · exact hiOf_mem ps l _ h
theorem hiOf_one (ps : List Pt) : ∀ (l : List Int) (a : Int), l.foldl (fun a i => max a (placeOf ps i)) a = a ∨ ∃ i ∈ l, l.foldl (fun a i => max a (placeOf ps i)) a = placeOf ps i
  | [], _ => .inl rfl
  | x :: l, a => by
    rcases hiOf_one ps l (max a (placeOf ps x)) with h | ⟨i, hi, h⟩
    · simp only [List.foldl_cons]
      rw [h]
      rcases Int.le_total a (placeOf ps x) with h1 | h1
      · exact .inr ⟨x, by simp, by omega⟩
      · exact .inl (by omega)
    · exact .inr ⟨i, by simp [hi], h⟩
/-- what is so of the poll of a device -/
structure PollP (m : Mat) (d : Nat) (x : Pl) : Prop where
  dev : x.dev = (d : Int)
  many : 1 ≤ x.many ∧ x.many ≤ 256
  frm : 0 ≤ x.frm ∧ x.frm ≤ 255
  first : ∃ p ∈ m.pts, p.dev = x.dev ∧ p.place = x.frm
  last : ∃ p ∈ m.pts, p.dev = x.dev ∧ p.place = x.frm + x.many - 1
  all : ∀ p ∈ m.pts, p.dev = x.dev → x.frm ≤ p.place ∧ p.place < x.frm + x.many
theorem mem_ofDev {m : Mat} {d : Int} {p : Pt} (hp : p ∈ m.pts) (hd : p.dev = d) : ∃ i ∈ ofDev m d, placeOf m.pts i = p.place := by
  obtain ⟨k, hk⟩ := List.getElem?_of_mem hp
  exact ⟨k, mem_ids.2 ⟨k, p, rfl, hk, by simp [hd]⟩, placeOf_of hk⟩
theorem of_mem {m : Mat} (hr : RightP m) {d i : Int} (hi : i ∈ ofDev m d) : ∃ p ∈ m.pts, p.dev = d ∧ p.place = placeOf m.pts i ∧ 0 ≤ p.place ∧ p.place ≤ 255 := by
  obtain ⟨k, p, rfl, hp, h1, h2, h3⟩ := ofDev_pt hr hi
  exact ⟨p, List.mem_of_getElem? hp, h1, (placeOf_of hp).symm, h2, h3⟩
theorem pollAt_is {m : Mat} (hr : RightP m) {d : Nat} {x : Pl} (h : pollAt m d = some x) : PollP m d x := by
  unfold pollAt at h
  split at h
  · cases h
  · rename_i i l hl
    injection h with h
    subst h
    have hi : i ∈ ofDev m d := by rw [hl]; simp
    obtain ⟨p0, hp0, e0, e1, e2, e3⟩ := of_mem hr hi
    have hlo : loOf m.pts (placeOf m.pts i) (i :: l) ≤ placeOf m.pts i := loOf_le _ _ _
    have hhi : placeOf m.pts i ≤ hiOf m.pts (placeOf m.pts i) (i :: l) := hiOf_le _ _ _
    have hlo1 : ∃ j ∈ ofDev m d, loOf m.pts (placeOf m.pts i) (i :: l) = placeOf m.pts j := by
      rcases loOf_one m.pts (i :: l) (placeOf m.pts i) with h | ⟨j, hj, h⟩
      · exact ⟨i, hi, h⟩
      · exact ⟨j, by rw [hl]; exact hj, h⟩
    have hhi1 : ∃ j ∈ ofDev m d, hiOf m.pts (placeOf m.pts i) (i :: l) = placeOf m.pts j := by
      rcases hiOf_one m.pts (i :: l) (placeOf m.pts i) with h | ⟨j, hj, h⟩
      · exact ⟨i, hi, h⟩
      · exact ⟨j, by rw [hl]; exact hj, h⟩
    obtain ⟨j1, hj1, g1⟩ := hlo1
    obtain ⟨j2, hj2, g2⟩ := hhi1
    obtain ⟨p1, hp1, f0, f1, f2, f3⟩ := of_mem hr hj1
    obtain ⟨p2, hp2, f4, f5, f6, f7⟩ := of_mem hr hj2
    refine ⟨rfl, ⟨by simp only; omega, by simp only; omega⟩, ⟨by simp only; omega, by simp only; omega⟩, ⟨p1, hp1, f0, by simp only; omega⟩, ⟨p2, hp2, f4, by simp only; omega⟩, fun p hp hd => ?_⟩
    obtain ⟨j, hj, e⟩ := mem_ofDev hp hd
    rw [hl] at hj
    have h1 : loOf m.pts (placeOf m.pts i) (i :: l) ≤ placeOf m.pts j := loOf_mem _ _ _ hj
    have h2 : placeOf m.pts j ≤ hiOf m.pts (placeOf m.pts i) (i :: l) := hiOf_mem _ _ _ hj
    simp only
    omega
theorem polls_mem {m : Mat} (hr : RightP m) {x : Pl} (h : x ∈ pollsF m) : ∃ d, PollP m d x := by
  obtain ⟨d, -, hd⟩ := List.mem_filterMap.1 h
  exact ⟨d, pollAt_is hr hd⟩
theorem polls_up {m : Mat} (hr : RightP m) : (pollsF m).Pairwise (fun x y => x.dev < y.dev) := by
  unfold pollsF pollsUpto
  refine List.Pairwise.filterMap _ (R := fun a b : Nat => a < b) ?_ List.pairwise_lt_range
  intro a b hab x hx y hy
  have h1 := (pollAt_is hr hx).dev
  have h2 := (pollAt_is hr hy).dev
  omega
theorem polls_next {m : Mat} (hr : RightP m) {i : Nat} {x y : Pl} (hx : (pollsF m)[i]? = some x) (hy : (pollsF m)[i + 1]? = some y) : x.dev < y.dev := by
  obtain ⟨h1, rfl⟩ := List.getElem?_eq_some_iff.1 hx
  obtain ⟨h2, rfl⟩ := List.getElem?_eq_some_iff.1 hy
  exact List.pairwise_iff_getElem.1 (polls_up hr) i (i + 1) h1 h2 (by omega)
theorem countP_one {α : Type} {q : α → Bool} : ∀ {l : List α}, l.Pairwise (fun x y => ¬ (q x = true ∧ q y = true)) → (∃ x ∈ l, q x = true) → l.countP q = 1
  | [], _, h => by obtain ⟨x, hx, -⟩ := h; cases hx
  | x :: l, hp, h => by
    obtain ⟨h1, h2⟩ := List.pairwise_cons.1 hp
    cases hq : q x with
    | true =>
      have : l.countP q = 0 := List.countP_eq_zero.2 (fun y hy e => h1 y hy ⟨hq, e⟩)
      rw [List.countP_cons, this, hq]; rfl
    | false =>
      obtain ⟨y, hy, e⟩ := h
      rcases List.mem_cons.1 hy with rfl | hy
      · rw [hq] at e; cases e
      · rw [List.countP_cons, countP_one h2 ⟨y, hy, e⟩, hq]; rfl
/-- is a point within a poll? -/
def inPoll (p : Pt) (x : Pl) : Bool := x.dev == p.dev && (decide (x.frm ≤ p.place) && decide (p.place < x.frm + x.many))
theorem in_once {m : Mat} (hr : RightP m) {p : Pt} (hp : p ∈ m.pts) : (pollsF m).countP (inPoll p) = 1 := by
  refine countP_one ((polls_up hr).imp (fun {x y} h => ?_)) ?_
  · rintro ⟨h1, h2⟩
    simp only [inPoll, Bool.and_eq_true, beq_iff_eq] at h1 h2
    omega
  · obtain ⟨k, hk⟩ := List.getElem?_of_mem hp
    obtain ⟨⟨d0, d1⟩, -⟩ := hr.2.2.2.1.2 k p hk
    have hne : ∃ x, pollAt m p.dev.toNat = some x := by
      obtain ⟨i, hi, -⟩ := mem_ofDev (d := ((p.dev.toNat : Nat) : Int)) hp (by omega)
      unfold pollAt
      split
      · rename_i h; rw [h] at hi; cases hi
      · exact ⟨_, rfl⟩
    obtain ⟨x, hx⟩ := hne
    have hP := pollAt_is hr hx
    have hd : p.dev = x.dev := by have := hP.dev; omega
    refine ⟨x, List.mem_filterMap.2 ⟨p.dev.toNat, List.mem_range.2 (by omega), hx⟩, ?_⟩
    have := hP.all p hp hd
    simp only [inPoll, Bool.and_eq_true, beq_iff_eq, decide_eq_true_eq]
    exact ⟨hd.symm, this⟩
/-- is one of the first ones so? -/
def anyUpto {α : Type} (q : α → Bool) (l : List α) (k : Nat) : Bool := (l.take k).any q
theorem anyUpto_zero {α : Type} (q : α → Bool) (l : List α) : anyUpto q l 0 = false := rfl
theorem anyUpto_next {α : Type} {q : α → Bool} {l : List α} {k : Nat} {x : α} (hx : l[k]? = some x) : anyUpto q l (k + 1) = (anyUpto q l k || q x) := by
  unfold anyUpto
  rw [List.take_add_one, hx]
  simp
theorem anyUpto_all {α : Type} {q : α → Bool} {l : List α} (h : ∃ x ∈ l, q x = true) : anyUpto q l l.length = true := by
  unfold anyUpto
  rw [List.take_length, List.any_eq_true]
  exact h
def cntUpto {α : Type} (q : α → Bool) (l : List α) (k : Nat) : Nat := (l.take k).countP q
theorem cntUpto_zero {α : Type} (q : α → Bool) (l : List α) : cntUpto q l 0 = 0 := rfl
theorem cntUpto_next {α : Type} {q : α → Bool} {l : List α} {k : Nat} {x : α} (hx : l[k]? = some x) : cntUpto q l (k + 1) = cntUpto q l k + if q x = true then 1 else 0 := by
  unfold cntUpto
  rw [List.take_add_one, hx, Option.toList_some, List.countP_append, List.countP_singleton]
theorem cntUpto_all {α : Type} (q : α → Bool) (l : List α) : cntUpto q l l.length = l.countP q := by unfold cntUpto; rw [List.take_length]
theorem cntUpto_le {α : Type} (q : α → Bool) (l : List α) (k : Nat) : cntUpto q l k ≤ k := Nat.le_trans List.countP_le_length (by simp; omega)
def isFirst (x : Pl) (p : Pt) : Bool := p.dev == x.dev && p.place == x.frm
def isLast (x : Pl) (p : Pt) : Bool := p.dev == x.dev && p.place == x.frm + x.many - 1
theorem first_any {m : Mat} {d : Nat} {x : Pl} (h : PollP m d x) : anyUpto (isFirst x) m.pts m.pts.length = true := by
  obtain ⟨p, hp, h1, h2⟩ := h.first
  exact anyUpto_all ⟨p, hp, by simp [isFirst, h1, h2]⟩
theorem last_any {m : Mat} {d : Nat} {x : Pl} (h : PollP m d x) : anyUpto (isLast x) m.pts m.pts.length = true := by
  obtain ⟨p, hp, h1, h2⟩ := h.last
  exact anyUpto_all ⟨p, hp, by simp [isLast, h1, h2]⟩
theorem polls_len (m : Mat) : (pollsF m).length ≤ m.devs.length := pollsUpto_len m _
end Go.Proofs.Ytbpenoelmangkaa
