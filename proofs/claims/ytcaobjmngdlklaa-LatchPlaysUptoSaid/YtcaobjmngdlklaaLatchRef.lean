/-
  The document's latches, walked: New, At, All, First, Reset, and Same.
-/
import Derived.Test.YtcaobjmngdlklaaLatchLoad
namespace Go.Proofs.Ytcaobjmngdlklaa
open Go.RowKit
theorem int_info : (Try.prog.info? 3).map (fun i => (i.zero, i.size, i.bytes)) = some (some (.int .i64 0), 1, 8) := by kernel_rfl
def nC (x : Int) : List Value := [.int .i64 x]
theorem nC_len (x : Int) : (nC x).length = 1 := rfl
/-- the document's latches lie at g -/
def RVt (B g : Nat) (gs : List Int) (L : List Lat) (vG vL : Value) (w : World) : Prop :=
  Words.Blk w g 52 #[vG, vL] ∧ w.ownsRow B 3 1 vG gs.length (gs.flatMap nC) ∧ w.ownsRow B 37 3 vL L.length (L.flatMap latC) ∧ B ≤ g
def RAt (B g : Nat) (gs : List Int) (L : List Lat) (w : World) : Prop := ∃ vG vL, RVt B g gs L vG vL w
/-- blocks of the document's kinds alone may have turned -/
structure ROth (B : Nat) (w w' : World) : Prop where
  below : Below B w w'
  block : ∀ (k : Nat) (x : Obj), w.heap[k]? = some x → (∀ cs z, x ≠ Obj.cells cs 52 z) → (∀ cs z, x ≠ Obj.cells cs 37 z) → w'.heap[k]? = some x
theorem own_obj {w : World} {base size n k : Nat} {e : TypeId} {v : Value} {xs : List Value} (h : w.ownsRow base e size v n xs) (hk : v.ownBlock = some k) : ∃ cs, w.heap[k]? = some (Obj.cells cs e (0, 0)) := by
  rcases h.2 with ⟨rfl, _⟩ | ⟨g, cap, cur, rfl, _, hg, _⟩
  · simp [Value.ownBlock] at hk
  · simp [Value.ownBlock] at hk
    subst hk
    exact ⟨_, hg⟩
theorem own_kept {w w' : World} {base size n : Nat} {e : TypeId} {v : Value} {xs : List Value} (h : w.ownsRow base e size v n xs) (hc : ∀ k, v.ownBlock = some k → w'.heap[k]? = w.heap[k]?) : w'.ownsRow base e size v n xs := by
  refine ⟨h.1, ?_⟩
  rcases h.2 with hn | ⟨g, cap, cur, rfl, hb, hgg, rest⟩
  · exact .inl hn
  · exact .inr ⟨g, cap, cur, rfl, hb, (hc g rfl).trans hgg, rest⟩
theorem RVt.kept {B g : Nat} {gs : List Int} {L : List Lat} {vG vL : Value} {w w' : World} (h : RVt B g gs L vG vL w) (hg : w'.heap[g]? = w.heap[g]?) (h1 : ∀ k, vG.ownBlock = some k → w'.heap[k]? = w.heap[k]?) (h2 : ∀ k, vL.ownBlock = some k → w'.heap[k]? = w.heap[k]?) : RVt B g gs L vG vL w' :=
  ⟨hg.trans h.1, own_kept h.2.1 h1, own_kept h.2.2.1 h2, h.2.2.2⟩
theorem RVt.below {B g : Nat} {gs : List Int} {L : List Lat} {vG vL : Value} {w w' : World} (h : RVt B g gs L vG vL w) (hb : Below w.heap.size w w') : RVt B g gs L vG vL w' :=
  h.kept (hb.block g (Words.Blk.lt h.1)) (fun k hk => hb.block k (h.2.1.lt k hk).2) (fun k hk => hb.block k (h.2.2.1.lt k hk).2)
theorem RAt.below {B g : Nat} {gs : List Int} {L : List Lat} {w w' : World} (h : RAt B g gs L w) (hb : Below w.heap.size w w') : RAt B g gs L w' := by
  obtain ⟨vG, vL, h⟩ := h
  exact ⟨vG, vL, h.below hb⟩
/-- what the program does leaves the document's alone -/
theorem RAt.foot {B B' g g' : Nat} {v : Value} {m1 m2 N : Nat} {s : LS} {gs : List Int} {L : List Lat} {w w' : World} (h : RAt B g gs L w) (hx : LAt B' g' v m1 m2 N s w) (hf : Foot g' v m1 m2 w w') : RAt B g gs L w' := by
  obtain ⟨vG, vL, h⟩ := h
  obtain ⟨es1, cl1, o1⟩ := hx.1.2.2.1.obj
  obtain ⟨es2, cl2, o2⟩ := hx.1.2.2.2.obj
  have og := hx.1.1
  unfold Words.Blk at og
  have key : ∀ (k : Nat) (cs : Array Value) (t : TypeId), w.heap[k]? = some (Obj.cells cs t (0, 0)) → t ≠ 48 → t ≠ 50 → w'.heap[k]? = w.heap[k]? := by
    intro k cs t hk h48 h50
    refine hf.block k (Array.getElem?_eq_some_iff.1 hk).1 ?_ ?_ ?_ ?_
    · rintro rfl; rw [og] at hk; injection hk with e; injection e with _ e; exact h48 e.symm
    · intro e
      obtain ⟨cs', h'⟩ := own_obj hx.1.2.1 e
      rw [h'] at hk; injection hk with e; injection e with _ e; exact h50 e.symm
    · rintro rfl; rw [o1] at hk; cases hk
    · rintro rfl; rw [o2] at hk; cases hk
  refine ⟨vG, vL, h.kept (key g _ 52 h.1 (by decide) (by decide)) (fun k hk => ?_) (fun k hk => ?_)⟩
  · obtain ⟨cs, hc⟩ := own_obj h.2.1 hk; exact key k _ 3 hc (by decide) (by decide)
  · obtain ⟨cs, hc⟩ := own_obj h.2.2.1 hk; exact key k _ 37 hc (by decide) (by decide)
/-- .. and the other way round -/
theorem LAt.roth {B B' g : Nat} {v : Value} {m1 m2 N : Nat} {s : LS} {w w' : World} (h : LAt B g v m1 m2 N s w) (ho : ROth B' w w') : LAt B g v m1 m2 N s w' := by
  obtain ⟨es1, cl1, o1⟩ := h.1.2.2.1.obj
  obtain ⟨es2, cl2, o2⟩ := h.1.2.2.2.obj
  have og := h.1.1
  unfold Words.Blk at og
  refine h.kept ((ho.block g _ og ?_ ?_).trans og.symm) (fun k hk => ?_) ((ho.block m1 _ o1 ?_ ?_).trans o1.symm) ((ho.block m2 _ o2 ?_ ?_).trans o2.symm)
  · intro cs z e; injection e with _ e; exact absurd e (by decide)
  · intro cs z e; injection e with _ e; exact absurd e (by decide)
  · obtain ⟨cs, hc⟩ := own_obj h.1.2.1 hk
    refine (ho.block k _ hc ?_ ?_).trans hc.symm
    · intro cs z e; injection e with _ e; exact absurd e (by decide)
    · intro cs z e; injection e with _ e; exact absurd e (by decide)
  · intro cs z e; cases e
  · intro cs z e; cases e
  · intro cs z e; cases e
  · intro cs z e; cases e
theorem ROth.of_below {B : Nat} {w w' : World} (h : Below w.heap.size w w') (hB : B ≤ w.heap.size) : ROth B w w' :=
  ⟨h.mono hB, fun k _ hk _ _ => (h.block k (Array.getElem?_eq_some_iff.1 hk).1).trans hk⟩
theorem ROth.trans {B : Nat} {w w1 w2 : World} (h : ROth B w w1) (k : ROth B w1 w2) : ROth B w w2 := ⟨h.below.trans k.below, fun i x hi a b => k.block i x (h.block i x hi a b) a b⟩
/-- a cell of a block of the document's is stored -/
theorem ROth.set_ {B g : Nat} {w : World} {cs : Array Value} {t : TypeId} (h : w.heap[g]? = some (Obj.cells cs t (0, 0))) (ht : t = 52 ∨ t = 37) (hB : B ≤ g) (i : Nat) (u : Value) : ROth B w (w.setCell ⟨g, i, none⟩ u) := by
  refine ⟨(Below.refl _ _).setCell hB _, fun k x hk h52 h37 => ?_⟩
  rw [Below.heap_setCell w ⟨g, i, none⟩ u k ?_]
  · exact hk
  · rintro rfl
    rw [h] at hk
    injection hk with hk
    rcases ht with rfl | rfl
    · exact h52 cs (0, 0) hk.symm
    · exact h37 cs (0, 0) hk.symm
theorem lit_nil {base : Nat} (w : World) (t : TypeId) (size : Nat) (g : Nat) (hg : w.heap.size = g) (hb : base ≤ g) : (w.alloc (.cells #[] t)).ownsRow base t size (.slice (some ⟨g, 0, none⟩) 0 0) 0 [] := by
  subst hg; exact World.ownsRow_lit w #[] 0 hb (by simp [maxLen]) (by simp)
theorem one_nums (l : List Int) : ∀ u ∈ l.flatMap nC, u.oneCell' = true := by
  intro u hu
  obtain ⟨x, _, hx⟩ := List.mem_flatMap.1 hu
  simp only [nC, List.mem_singleton] at hx
  subst hx; rfl
theorem one_lats (l : List Lat) : ∀ u ∈ l.flatMap latC, u.oneCell' = true := by
  intro u hu
  obtain ⟨x, _, hx⟩ := List.mem_flatMap.1 hu
  simp only [latC, List.mem_cons, List.not_mem_nil, or_false] at hx
  rcases hx with rfl | rfl | rfl <;> rfl
set_option maxRecDepth 100000 in
theorem there_any (B g : Nat) (gs : List Int) (L : List Lat) (w : World) (h : RAt B g gs L w) (i : Int) :
    Calls Try.prog 24 #[.pointer (some ⟨g, 0, none⟩), .int .i64 i] w fun e w' => e = .returned (.bool (decide (0 ≤ i ∧ i < L.length))) ∧ w = w' := by
  obtain ⟨vG, vL, h⟩ := h
  obtain ⟨A, c, e⟩ := own_form h.2.2.1
  subst e
  have c1 : w.cell? ⟨g, 1, none⟩ = some (.slice A L.length c) := h.1.cell 1
  by_cases h0 : 0 ≤ i
  · by_cases h1 : i < (L.length : Int)
    · rw [decide_eq_true ⟨h0, h1⟩]
      clear h
      go_enter Try.func24, Try.ntmps24
      go_wp2_with fail
      go_ret
      exact ⟨rfl, rfl⟩
    · rw [decide_eq_false (by omega)]
      clear h
      go_enter Try.func24, Try.ntmps24
      go_wp2_with fail
      go_ret
      exact ⟨rfl, rfl⟩
  · rw [decide_eq_false (by omega)]
    clear h
    go_enter Try.func24, Try.ntmps24
    go_wp2_with fail
    go_ret
    exact ⟨rfl, rfl⟩
def ratL (L : List Lat) (i : Int) : Lat := if 0 ≤ i then L.getD i.toNat ⟨false, 0, false⟩ else ⟨false, 0, false⟩
theorem rat_cases (L : List Lat) (i : Int) : (¬ (0 ≤ i ∧ i < L.length) ∧ ratL L i = ⟨false, 0, false⟩) ∨ ∃ (k : Nat) (x : Lat), i = k ∧ L[k]? = some x ∧ ratL L i = x := by
  by_cases h : 0 ≤ i ∧ i < L.length
  · have hk : i.toNat < L.length := by omega
    refine .inr ⟨i.toNat, L[i.toNat], by omega, List.getElem?_eq_getElem hk, ?_⟩
    unfold ratL
    rw [if_pos h.1]
    simp [List.getD_eq_getElem?_getD, hk]
  · refine .inl ⟨h, ?_⟩
    unfold ratL
    by_cases h0 : 0 ≤ i
    · rw [if_pos h0, List.getD_eq_getElem?_getD, List.getElem?_eq_none (by omega)]; rfl
    · rw [if_neg h0]
set_option maxRecDepth 100000 in
theorem RAt_any (B g : Nat) (gs : List Int) (L : List Lat) (w : World) (h : RAt B g gs L w) (i : Int) :
    Calls Try.prog 17 #[.pointer (some ⟨g, 0, none⟩), .int .i64 i] w fun e w' => e = .returned (latV (ratL L i)) ∧ Below w.heap.size w w' := by
  have H := Lib.hid (h.below (w' := w.alloc (.cells #[.bool false, .int .i64 0, .bool false] 37)) ((Below.refl _ _).alloc (Nat.le_refl _) _))
  rcases rat_cases L i with ⟨hi, e⟩ | ⟨k, x, rfl, hx, e⟩
  · rw [e]
    have hd : decide (0 ≤ i ∧ i < (L.length : Int)) = false := decide_eq_false hi
    have HD := Lib.hid hd
    clear h hd hi e
    go_enter Try.func17, Try.ntmps17
    go_wp2_with fail
    refine (there_any B g gs L _ H.out i).mono ?_
    rintro e w1 ⟨rfl, rfl⟩
    rw [HD.out]
    go_wp2_with fail
    exact bodyPost_ret (v := .agg #[.bool false, .int .i64 0, .bool false]) (by simp [results, Try.results17, go_sem]) rfl ⟨rfl, (Below.refl _ _).alloc (Nat.le_refl _) _⟩
  · rw [e]
    have hk : k < L.length := (List.getElem?_eq_some_iff.1 hx).1
    obtain ⟨vG, vL, h⟩ := h
    obtain ⟨b, c, e, hc⟩ := own_some h.2.2.1 hk
    subst e
    have c1 : w.cell? ⟨g, 1, none⟩ = some (.slice (some ⟨b, 0, none⟩) L.length c) := h.1.cell 1
    obtain ⟨⟨x0, x1, x2⟩, -, -, -⟩ := row_facts h.2.2.1 hx
    have hgl := Words.Blk.lt h.1
    have hbl := (h.2.2.1.lt b rfl).2
    have hd : decide (0 ≤ (k : Int) ∧ (k : Int) < (L.length : Int)) = true := decide_eq_true (by omega)
    have HD := Lib.hid hd
    obtain ⟨xs, xt, xf⟩ := x
    simp only at x0 x1 x2
    clear h hd hx
    go_enter Try.func17, Try.ntmps17
    go_wp2_with fail
    refine (there_any B g gs L _ H.out k).mono ?_
    rintro e w1 ⟨rfl, rfl⟩
    rw [HD.out]
    go_wp2_with fail
    exact bodyPost_ret (v := .agg #[.bool xs, .int .i64 xt, .bool xf]) (by simp [results, Try.results17, go_sem]) rfl ⟨rfl, (Below.refl _ _).alloc (Nat.le_refl _) _⟩
end Go.Proofs.Ytcaobjmngdlklaa
