/-
  Lines as they are read.
  Plain laws of texts, lines and words: what is printed is told again; what lines are told; two texts, one below the other; blanks and remarks.
  THE WALKS of strings.Builder's writing methods, its copy check's refused way in sight.
  THE WALK of lex.Print: the text of lines.
  More of lines: what Lines hands back, what Print prints.
-/
import Derived.Test.YtckbdnkonccmiaaDoorLexA
import Derived.Shelf.Strings.BuilderX
import Derived.Lib.Strings
import Derived.Lib.Slices
import Derived.Lib.Walk
import Derived.Lib.Builder
import Derived.Lib.AppendStr
import Derived.Laws.Externs
namespace Go.Proofs.YtckbdnkonccmiaaDoor
open Go.RowKit
theorem eq_of_upto {α : Type} {a b : List α} (hl : a.length = b.length) (h : Upto (fun i x => b[i]? = some x) a a.length) : a = b := by
  apply List.ext_getElem? 
  intro i
  rcases Nat.lt_or_ge i a.length with hi | hi
  · have := h i a[i] hi (List.getElem?_eq_getElem hi)
    rw [this, List.getElem?_eq_getElem hi]
  · rw [List.getElem?_eq_none hi, List.getElem?_eq_none (by omega)]
/-- a bool is told; nothing but the count of draws turns -/
def Quiet (b : Bool) (w : World) (e : Ending) (w' : World) : Prop := e = .returned (.bool b) ∧ ∃ m, w' = w.drewN m
theorem StrsAt.drewN {w : World} {l : List ByteArray} {v : Value} (h : StrsAt w l v) (m : Nat) : StrsAt (w.drewN m) l v := h
theorem drawn_on {w wr : World} (h : ∃ m, wr = w.drewN m) (n : Nat) : ∃ m, wr.drewN n = w.drewN m := by
  obtain ⟨m, rfl⟩ := h
  exact ⟨m + n, World.drewN_drewN _ _ _⟩
theorem alike_strs {w wr : World} {l : List ByteArray} {v : Value} (h : ∃ m, wr = w.drewN m) (hl : StrsAt w l v) : StrsAt wr l v := by
  obtain ⟨m, rfl⟩ := h
  exact hl
/-- lines as they are read: their numbers and words -/
def LsAt (w : World) (xs : List Ln) (v : Value) : Prop := LawFrame.RowsAt w 2 Ln.cells xs v ∧ ∀ x ∈ xs, StrsAt w x.ws x.v ∧ x.ws.length ≤ 1125899906842624
theorem LsAt.below {w w' : World} {xs : List Ln} {v : Value} (h : LsAt w xs v) (hb : Below w.heap.size w w') : LsAt w' xs v := ⟨LawFrame.RowsAt.below h.1 hb, fun x hx => ⟨LawFrame.RowsAt.below (h.2 x hx).1 hb, (h.2 x hx).2⟩⟩
theorem alike_ls {w wr : World} {l : List Ln} {v : Value} (h : ∃ m, wr = w.drewN m) (hl : LsAt w l v) : LsAt wr l v := by
  obtain ⟨m, rfl⟩ := h
  exact hl
end Go.Proofs.YtckbdnkonccmiaaDoor
namespace Go.Proofs.YtckbdnkonccmiaaDoor
open Go.RowKit
def fineW (w : List UInt8) : Prop := w ≠ [] ∧ w.length ≤ 16 ∧ w.all letterB = true
def fineL (ws : List (List UInt8)) : Prop := ws ≠ [] ∧ ws.length ≤ 14 ∧ ∀ w ∈ ws, fineW w
/-- words, with blanks between -/
def joinW : List (List UInt8) → List UInt8
  | [] => []
  | w :: ws => w ++ ws.flatMap (fun v => 32 :: v)
def printL (ls : List (List (List UInt8))) : List UInt8 := ls.flatMap (fun ws => joinW ws ++ [10])
theorem letter_sp {c : UInt8} (h : letterB c = true) : Lib.isSp c = false := by
  have h1 := (letterB_iff c).1 h
  unfold Lib.isSp
  simp only [Bool.or_eq_false_iff, beq_eq_false_iff_ne, ne_eq]
  refine ⟨⟨⟨⟨⟨?_, ?_⟩, ?_⟩, ?_⟩, ?_⟩, ?_⟩ <;> (rintro rfl; revert h1; decide)
theorem ok_ne {c : UInt8} (h : okB c = true) : c ≠ 10 ∧ c ≠ 35 := by
  constructor
  · rintro rfl; exact absurd h (by decide)
  · rintro rfl; exact absurd h (by decide)
theorem ok_sp {c : UInt8} (h : okB c = true) (hs : Lib.isSp c = false) : letterB c = true := by
  unfold okB at h
  rw [Bool.or_eq_true] at h
  rcases h with h | h
  · rw [beq_iff_eq] at h; subst h; exact absurd hs (by decide)
  · exact h
theorem letter_ok {c : UInt8} (h : letterB c = true) : okB c = true := by unfold okB; rw [h]; simp
/-! ### the fields of words -/
theorem fieldsGo_letters : ∀ (x l cur : List UInt8), x.all letterB = true → Lib.fieldsGo cur (x ++ l) = Lib.fieldsGo (cur ++ x) l
  | [], l, cur, _ => by simp
  | b :: x, l, cur, h => by
    simp only [List.all_cons, Bool.and_eq_true] at h
    rw [List.cons_append, Lib.fieldsGo_more _ _ _ (letter_sp h.1), fieldsGo_letters x l _ h.2]
    simp
theorem fieldsGo_join : ∀ (ws : List (List UInt8)) (w : List UInt8), fineW w → (∀ v ∈ ws, fineW v) → Lib.fieldsGo [] (w ++ ws.flatMap (fun v => 32 :: v)) = w :: ws
  | [], w, h, _ => by
    rw [fieldsGo_letters _ _ _ h.2.2]
    simp [Lib.fieldsGo, h.1]
  | v :: ws, w, h, hs => by
    rw [fieldsGo_letters _ _ _ h.2.2, List.nil_append, List.flatMap_cons, List.cons_append, Lib.fieldsGo_end w 32 _ (by decide) h.1, fieldsGo_join ws v (hs v (by simp)) (fun u hu => hs u (by simp [hu]))]
theorem fields_join {ws : List (List UInt8)} (h : ∀ w ∈ ws, fineW w) : Lib.fields (joinW ws) = ws := by
  cases ws with
  | nil => rfl
  | cons w ws => exact fieldsGo_join ws w (h w (by simp)) (fun v hv => h v (by simp [hv]))
theorem join_ok {ws : List (List UInt8)} (h : ∀ w ∈ ws, fineW w) : (joinW ws).all okB = true := by
  have one : ∀ w ∈ ws, ∀ c ∈ w, okB c = true := fun w hw c hc => letter_ok (List.all_eq_true.1 (h w hw).2.2 c hc)
  rw [List.all_eq_true]
  intro c hc
  cases ws with
  | nil => simp [joinW] at hc
  | cons w ws =>
    simp only [joinW, List.mem_append, List.mem_flatMap, List.mem_cons] at hc
    rcases hc with hc | ⟨v, hv, rfl | hc⟩
    · exact one w (by simp) c hc
    · rfl
    · exact one v (by simp [hv]) c hc
theorem words_of_join {ws : List (List UInt8)} (h : fineL ws) : wordsE (joinW ws) = none := by
  unfold wordsE
  rw [if_pos (join_ok h.2.2), fields_join h.2.2, if_neg, if_neg (by have := h.2.1; omega)]
  simp only [List.any_eq_true, not_exists, not_and]
  intro w hw hl
  have := (h.2.2 w hw).2.1
  unfold longB at hl
  have := of_decide_eq_true hl
  omega
theorem strip_ok {l : List UInt8} (h : l.all okB = true) : strip l = l := by
  unfold strip
  have e := List.takeWhile_append_of_pos (p := fun c : UInt8 => c != 35) (l₁ := l) (l₂ := []) (fun c hc => by simpa using (ok_ne (List.all_eq_true.1 h c hc)).2)
  simpa using e
theorem pieces_ahead (c : UInt8) : ∀ (p l : List UInt8), c ∉ p → pieces c (p ++ c :: l) = p :: pieces c l
  | [], l, _ => by rw [List.nil_append, pieces_hit (by simp)]
  | b :: p, l, h => by
    rw [List.cons_append, pieces_skip (by simp at h ⊢; exact fun e => h.1 e.symm) (pieces_ahead c p l (by simp at h; exact h.2))]
theorem join_ten {ws : List (List UInt8)} (h : ∀ w ∈ ws, fineW w) : (10 : UInt8) ∉ joinW ws := fun hc => (ok_ne (List.all_eq_true.1 (join_ok h) 10 hc)).1 rfl
theorem pieces_print : ∀ (ls : List (List (List UInt8))), (∀ ws ∈ ls, fineL ws) → pieces 10 (printL ls) = ls.map joinW ++ [[]]
  | [], _ => rfl
  | ws :: ls, h => by
    unfold printL
    rw [List.flatMap_cons, List.append_assoc, List.singleton_append, pieces_ahead _ _ _ (join_ten (h ws (by simp)).2.2)]
    have := pieces_print ls (fun v hv => h v (by simp [hv]))
    unfold printL at this
    rw [this]; rfl
/-- numbered on -/
def number {α : Type} : Nat → List α → List (Nat × α)
  | _, [] => []
  | n, x :: l => (n, x) :: number (n + 1) l
theorem number_len {α : Type} : ∀ (n : Nat) (l : List α), (number n l).length = l.length
  | _, [] => rfl
  | n, x :: l => by rw [number, List.length_cons, List.length_cons, number_len]
theorem number_get {α : Type} : ∀ (n : Nat) (l : List α) (i : Nat), (number n l)[i]? = l[i]?.map (fun x => (n + i, x))
  | _, [], i => by simp [number]
  | n, x :: l, 0 => by simp [number]
  | n, x :: l, i + 1 => by
    rw [number, List.getElem?_cons_succ, List.getElem?_cons_succ, number_get (n + 1) l i]
    congr 1; funext y; simp; omega
theorem number_snd {α : Type} : ∀ (n : Nat) (l : List α), (number n l).map (·.2) = l
  | _, [] => rfl
  | n, x :: l => by rw [number, List.map_cons, number_snd]
theorem items_number : ∀ (n : Nat) (ps : List (List UInt8)), items n ps = number n (ps.map strip)
  | _, [] => rfl
  | n, p :: ps => by rw [items, items_number, List.map_cons, number]
theorem items_append : ∀ (n : Nat) (ps qs : List (List UInt8)), items n (ps ++ qs) = items n ps ++ items (n + ps.length) qs
  | _, [], qs => by simp [items]
  | n, p :: ps, qs => by
    rw [List.cons_append, items, items_append, items, List.length_cons, List.cons_append]
    congr 3
    omega
theorem firstBad_none {l : List (Nat × List UInt8)} : firstBad l = none ↔ ∀ x ∈ l, wordsE x.2 = none := by
  unfold firstBad
  rw [List.findSome?_eq_none_iff]
  constructor
  · intro h x hx
    have := h x hx
    unfold badOf at this
    simpa using this
  · intro h x hx
    unfold badOf
    rw [h x hx]; rfl
theorem items_print (n : Nat) (ls : List (List (List UInt8))) (h : ∀ ws ∈ ls, fineL ws) : firstBad (items n (ls.map joinW ++ [[]])) = none ∧ gather (items n (ls.map joinW ++ [[]])) = number n ls := by
  induction ls generalizing n with
  | nil => exact ⟨rfl, rfl⟩
  | cons ws ls ih =>
    obtain ⟨h1, h2⟩ := ih (n + 1) (fun v hv => h v (by simp [hv]))
    have hw := h ws (by simp)
    have hs := strip_ok (join_ok hw.2.2)
    rw [List.map_cons, List.cons_append, items]
    constructor
    · rw [firstBad_none] at h1 ⊢
      intro x hx
      rcases List.mem_cons.1 hx with rfl | hx
      · simp only; rw [hs]; exact words_of_join hw
      · exact h1 x hx
    · unfold gather at h2 ⊢
      rw [List.flatMap_cons, h2, hs, lineOf_some (by simp only; rw [fields_join hw.2.2]; exact hw.1)]
      simp only [number]
      rw [fields_join hw.2.2]; rfl
theorem text_print {ls : List (List (List UInt8))} (h : ∀ ws ∈ ls, fineL ws) : textE (printL ls) = (if 4096 < (printL ls).length then some (2, 0) else none) ∧ textL (printL ls) = number 1 ls := by
  obtain ⟨h1, h2⟩ := items_print 1 ls h
  unfold textE textL itemsOf
  rw [pieces_print ls h]
  exact ⟨by rw [h1], h2⟩
/-! ### what lines are told -/
theorem fieldsGo_fine : ∀ (l cur : List UInt8), l.all okB = true → cur.all letterB = true → ∀ w ∈ Lib.fieldsGo cur l, w ≠ [] ∧ w.all letterB = true
  | [], cur, _, hc, w, hw => by
    unfold Lib.fieldsGo at hw
    split at hw
    · cases hw
    · rename_i hn
      simp only [List.mem_singleton] at hw
      subst hw
      exact ⟨by intro e; subst e; exact hn rfl, hc⟩
  | b :: l, cur, h, hc, w, hw => by
    simp only [List.all_cons, Bool.and_eq_true] at h
    unfold Lib.fieldsGo at hw
    split at hw
    · split at hw
      · exact fieldsGo_fine l [] h.2 rfl w hw
      · rename_i hn
        rcases List.mem_cons.1 hw with rfl | hw
        · exact ⟨by intro e; subst e; exact hn rfl, hc⟩
        · exact fieldsGo_fine l [] h.2 rfl w hw
    · rename_i hn
      exact fieldsGo_fine l (cur ++ [b]) h.2 (by rw [List.all_append, hc]; simp [ok_sp h.1 (by simpa using hn)]) w hw
theorem fields_fine {l : List UInt8} (h : wordsE l = none) (hne : ¬ Lib.fields l = []) : fineL (Lib.fields l) := by
  obtain ⟨h1, h2, h3⟩ := wordsE_none h
  refine ⟨hne, h1, fun w hw => ?_⟩
  obtain ⟨a, b⟩ := fieldsGo_fine l [] h2 rfl w hw
  refine ⟨a, ?_, b⟩
  rw [List.any_eq_false] at h3
  have := h3 w hw
  unfold longB at this
  simp only [decide_eq_true_eq] at this
  omega
theorem mem_gather {l : List (Nat × List UInt8)} {x : Nat × List (List UInt8)} (hx : x ∈ gather l) : ∃ y ∈ l, x = (y.1, Lib.fields y.2) ∧ ¬ Lib.fields y.2 = [] := by
  unfold gather at hx
  obtain ⟨y, hy, h⟩ := List.mem_flatMap.1 hx
  refine ⟨y, hy, ?_⟩
  by_cases he : Lib.fields y.2 = []
  · rw [lineOf_none he] at h; cases h
  · rw [lineOf_some he] at h
    simp only [List.mem_singleton] at h
    exact ⟨h, he⟩
theorem textL_fine {l : List UInt8} (h : firstBad (itemsOf l) = none) : ∀ x ∈ textL l, fineL x.2 := by
  intro x hx
  obtain ⟨y, hy, rfl, hne⟩ := mem_gather hx
  exact fields_fine (firstBad_none.1 h y hy) hne
theorem textE_none {l : List UInt8} (h : textE l = none) : l.length ≤ 4096 ∧ firstBad (itemsOf l) = none := by
  unfold textE at h
  split at h
  · cases h
  · exact ⟨by omega, h⟩
/-- how many ends a text has -/
def ends (l : List UInt8) : Nat := l.count 10
theorem pieces_len (l : List UInt8) : (pieces 10 l).length = ends l + 1 := by
  unfold ends
  induction l with
  | nil => rfl
  | cons b l ih =>
    by_cases hb : (b == 10) = true
    · rw [pieces_hit hb, List.length_cons, ih, List.count_cons, if_pos hb]
    · obtain ⟨p, ps, e⟩ : ∃ p ps, pieces 10 l = p :: ps := by
        cases e : pieces 10 l with
        | nil => exact absurd e (pieces_ne 10 l)
        | cons p ps => exact ⟨p, ps, rfl⟩
      rw [pieces_skip hb e, List.count_cons, if_neg hb]
      rw [e] at ih
      simpa using ih
theorem items_bound : ∀ (n : Nat) (ps : List (List UInt8)), ∀ x ∈ items n ps, n ≤ x.1 ∧ x.1 < n + ps.length
  | _, [], x, hx => by cases hx
  | n, p :: ps, x, hx => by
    rw [items] at hx
    rcases List.mem_cons.1 hx with rfl | hx
    · simp
    · have := items_bound (n + 1) ps x hx
      simp; omega
theorem items_rise : ∀ (n : Nat) (ps : List (List UInt8)), (items n ps).Pairwise (fun a b => a.1 < b.1)
  | _, [] => List.Pairwise.nil
  | n, p :: ps => by
    rw [items]
    refine List.Pairwise.cons (fun x hx => ?_) (items_rise (n + 1) ps)
    have := items_bound (n + 1) ps x hx
    simp only; omega
theorem gather_rise {l : List (Nat × List UInt8)} (h : l.Pairwise (fun a b => a.1 < b.1)) : (gather l).Pairwise (fun a b => a.1 < b.1) := by
  induction l with
  | nil => exact List.Pairwise.nil
  | cons y l ih =>
    obtain ⟨h1, h2⟩ := List.pairwise_cons.1 h
    have hg : gather (y :: l) = lineOf y ++ gather l := by unfold gather; rw [List.flatMap_cons]
    rw [hg]
    by_cases he : Lib.fields y.2 = []
    · rw [lineOf_none he, List.nil_append]; exact ih h2
    · rw [lineOf_some he, List.singleton_append]
      refine List.Pairwise.cons (fun x hx => ?_) (ih h2)
      obtain ⟨z, hz, rfl, -⟩ := mem_gather hx
      exact h1 z hz
theorem textL_numbers (l : List UInt8) : (textL l).Pairwise (fun a b => a.1 < b.1) ∧ ∀ x ∈ textL l, 1 ≤ x.1 ∧ x.1 ≤ ends l + 1 := by
  refine ⟨gather_rise (items_rise 1 _), fun x hx => ?_⟩
  obtain ⟨y, hy, rfl, -⟩ := mem_gather hx
  have := items_bound 1 _ y hy
  rw [pieces_len] at this
  simp only; omega
theorem wordsE_some {l : List UInt8} {k : Int} (h : wordsE l = some k) : k = 71 ∨ k = 72 ∨ k = 2 := by
  unfold wordsE at h
  split at h
  · split at h
    · simp at h; omega
    · split at h
      · simp at h; omega
      · cases h
  · simp at h; omega
theorem firstBad_some {l : List (Nat × List UInt8)} {k no : Int} (h : firstBad l = some (k, no)) : (k = 71 ∨ k = 72 ∨ k = 2) ∧ ∃ x ∈ l, no = (x.1 : Int) := by
  unfold firstBad at h
  obtain ⟨x, hx, hb⟩ := List.exists_of_findSome?_eq_some h
  unfold badOf at hb
  rw [Option.map_eq_some_iff] at hb
  obtain ⟨k', hk, e⟩ := hb
  simp only [Prod.mk.injEq] at e
  obtain ⟨rfl, rfl⟩ := e
  exact ⟨wordsE_some hk, x, hx, rfl⟩
theorem textE_some {l : List UInt8} {k no : Int} (h : textE l = some (k, no)) : (k = 71 ∨ k = 72 ∨ k = 2) ∧ 0 ≤ no ∧ no ≤ ends l + 1 := by
  unfold textE at h
  split at h
  · simp only [Option.some.injEq, Prod.mk.injEq] at h
    omega
  · obtain ⟨h1, x, hx, rfl⟩ := firstBad_some h
    have := items_bound 1 _ x hx
    rw [pieces_len] at this
    exact ⟨h1, by omega, by omega⟩
/-! ### two texts, one below the other -/
theorem pieces_below (t : List UInt8) : ∀ s : List UInt8, pieces 10 (s ++ 10 :: t) = pieces 10 s ++ pieces 10 t
  | [] => by rw [List.nil_append, pieces_hit (by decide)]; rfl
  | b :: s => by
    have ih := pieces_below t s
    by_cases hb : (b == 10) = true
    · rw [List.cons_append, pieces_hit hb, pieces_hit hb, ih]; rfl
    · obtain ⟨p, ps, e⟩ : ∃ p ps, pieces 10 s = p :: ps := by
        cases e : pieces 10 s with
        | nil => exact absurd e (pieces_ne 10 s)
        | cons p ps => exact ⟨p, ps, rfl⟩
      rw [e] at ih
      rw [List.cons_append, pieces_skip hb ih, pieces_skip hb e]; rfl
def onward {α : Type} (k : Nat) (x : Nat × α) : Nat × α := (x.1 + k, x.2)
theorem items_shift (k : Nat) : ∀ (n : Nat) (ps : List (List UInt8)), items (n + k) ps = (items n ps).map (onward k)
  | _, [] => rfl
  | n, p :: ps => by
    rw [items, items, List.map_cons, ← items_shift k (n + 1) ps]
    rw [show n + k + 1 = n + 1 + k by omega]; rfl
theorem items_below (s t : List UInt8) : itemsOf (s ++ 10 :: t) = itemsOf s ++ (itemsOf t).map (onward (ends s + 1)) := by
  unfold itemsOf
  rw [pieces_below, items_append, pieces_len, ← items_shift]
theorem gather_append (a b : List (Nat × List UInt8)) : gather (a ++ b) = gather a ++ gather b := by unfold gather; rw [List.flatMap_append]
theorem gather_shift (k : Nat) (l : List (Nat × List UInt8)) : gather (l.map (onward k)) = (gather l).map (onward k) := by
  unfold gather
  rw [List.flatMap_map, List.map_flatMap]
  congr 1
  funext x
  unfold lineOf onward
  split <;> simp
theorem firstBad_shift (k : Nat) (l : List (Nat × List UInt8)) : firstBad (l.map (onward k)) = (firstBad l).map (fun x => (x.1, x.2 + (k : Int))) := by
  induction l with
  | nil => rfl
  | cons x l ih =>
    unfold firstBad at ih ⊢
    rw [List.map_cons, List.findSome?_cons, List.findSome?_cons]
    unfold badOf onward at *
    simp only
    cases wordsE x.2 with
    | none => simpa using ih
    | some j => simp
theorem firstBad_append (a b : List (Nat × List UInt8)) : firstBad (a ++ b) = (firstBad a).or (firstBad b) := by
  unfold firstBad; rw [List.findSome?_append]
/-! ### blanks and remarks -/
/-- lines of the same words -/
def Alike (p q : List UInt8) : Prop := wordsE (strip p) = wordsE (strip q) ∧ Lib.fields (strip p) = Lib.fields (strip q)
theorem Alike.refl (p : List UInt8) : Alike p p := ⟨rfl, rfl⟩
theorem Alike.trans {p q r : List UInt8} (h : Alike p q) (h' : Alike q r) : Alike p r := ⟨h.1.trans h'.1, h.2.trans h'.2⟩
inductive AllAlike : List (List UInt8) → List (List UInt8) → Prop
  | nil : AllAlike [] []
  | cons {p q : List UInt8} {ps qs : List (List UInt8)} (h : Alike p q) (t : AllAlike ps qs) : AllAlike (p :: ps) (q :: qs)
theorem AllAlike.refl : ∀ ps : List (List UInt8), AllAlike ps ps
  | [] => .nil
  | p :: ps => .cons (Alike.refl p) (AllAlike.refl ps)
theorem AllAlike.trans {a b c : List (List UInt8)} (h : AllAlike a b) (h' : AllAlike b c) : AllAlike a c := by
  induction h generalizing c with
  | nil => exact h'
  | cons h t ih =>
    cases h' with
    | cons h2 t2 => exact .cons (h.trans h2) (ih t2)
theorem AllAlike.items {a b : List (List UInt8)} (h : AllAlike a b) (n : Nat) : firstBad (items n a) = firstBad (items n b) ∧ gather (items n a) = gather (items n b) := by
  induction h generalizing n with
  | nil => exact ⟨rfl, rfl⟩
  | @cons p q ps qs h t ih =>
    obtain ⟨h1, h2⟩ := ih (n + 1)
    constructor
    · unfold firstBad at h1 ⊢
      rw [Proofs.YtckbdnkonccmiaaDoor.items, Proofs.YtckbdnkonccmiaaDoor.items, List.findSome?_cons, List.findSome?_cons, h1]
      unfold badOf
      simp only
      rw [h.1]
    · unfold gather at h2 ⊢
      rw [Proofs.YtckbdnkonccmiaaDoor.items, Proofs.YtckbdnkonccmiaaDoor.items, List.flatMap_cons, List.flatMap_cons, h2]
      unfold lineOf
      simp only
      rw [h.2]
theorem fieldsGo_ahead (n : Nat) (l : List UInt8) : Lib.fieldsGo [] (List.replicate n 32 ++ l) = Lib.fieldsGo [] l := by
  induction n with
  | zero => rfl
  | succ n ih => rw [List.replicate_succ, List.cons_append, Lib.fieldsGo_sp _ _ (by decide), ih]
theorem fieldsGo_behind (n : Nat) : ∀ (l cur : List UInt8), Lib.fieldsGo cur (l ++ List.replicate n 32) = Lib.fieldsGo cur l
  | [], cur => by
    rw [List.nil_append]
    cases n with
    | zero => rfl
    | succ n =>
      rw [List.replicate_succ]
      have := fieldsGo_ahead n []
      rw [List.append_nil] at this
      by_cases hc : cur = []
      · subst hc; rw [Lib.fieldsGo_sp _ _ (by decide), this]
      · rw [Lib.fieldsGo_end _ _ _ (by decide) hc, this]
        simp [Lib.fieldsGo, hc]
  | b :: l, cur => by
    have ih := fun c => fieldsGo_behind n l c
    rw [List.cons_append]
    unfold Lib.fieldsGo
    rw [ih, ih]
theorem blanks_ok (n : Nat) : (List.replicate n (32 : UInt8)).all okB = true := by
  rw [List.all_eq_true]
  intro c hc
  rw [List.eq_of_mem_replicate hc]; rfl
theorem wordsE_of {a b : List UInt8} (h1 : a.all okB = b.all okB) (h2 : Lib.fields a = Lib.fields b) : wordsE a = wordsE b := by
  unfold wordsE; rw [h1, h2]
theorem alike_ahead (n : Nat) (p : List UInt8) : Alike (List.replicate n 32 ++ p) p := by
  have e : strip (List.replicate n 32 ++ p) = List.replicate n 32 ++ strip p := by
    unfold strip
    rw [List.takeWhile_append_of_pos]
    intro c hc
    rw [List.eq_of_mem_replicate hc]; rfl
  have e2 : Lib.fields (List.replicate n 32 ++ strip p) = Lib.fields (strip p) := fieldsGo_ahead n _
  unfold Alike
  rw [e]
  exact ⟨wordsE_of (by rw [List.all_append, blanks_ok]; rfl) e2, e2⟩
theorem strip_behind (n : Nat) (r : List UInt8) : ∀ p : List UInt8, strip (p ++ (List.replicate n 32 ++ 35 :: r)) = strip p ∨ strip (p ++ (List.replicate n 32 ++ 35 :: r)) = strip p ++ List.replicate n 32
  | [] => by
    right
    unfold strip
    rw [List.nil_append, List.takeWhile_append_of_pos (fun c hc => by rw [List.eq_of_mem_replicate hc]; rfl)]
    simp
  | b :: p => by
    unfold strip
    rw [List.cons_append, List.takeWhile_cons, List.takeWhile_cons]
    by_cases hb : (b != 35) = true
    · rw [if_pos hb, if_pos hb]
      rcases strip_behind n r p with h | h
      · left; unfold strip at h; rw [h]
      · right; unfold strip at h; rw [h]; rfl
    · left; rw [if_neg hb, if_neg hb]
theorem alike_behind (n : Nat) (r p : List UInt8) : Alike (p ++ (List.replicate n 32 ++ 35 :: r)) p := by
  unfold Alike
  rcases strip_behind n r p with h | h
  · rw [h]; exact ⟨rfl, rfl⟩
  · have e2 : Lib.fields (strip p ++ List.replicate n 32) = Lib.fields (strip p) := fieldsGo_behind n _ _
    rw [h]
    exact ⟨wordsE_of (by rw [List.all_append, blanks_ok, Bool.and_true]) e2, e2⟩
theorem pieces_blanks (n : Nat) (s : List UInt8) : AllAlike (pieces 10 (List.replicate n 32 ++ s)) (pieces 10 s) := by
  induction n with
  | zero => exact AllAlike.refl _
  | succ n ih =>
    refine AllAlike.trans ?_ ih
    obtain ⟨p, ps, e⟩ : ∃ p ps, pieces 10 (List.replicate n 32 ++ s) = p :: ps := by
      cases e : pieces 10 (List.replicate n 32 ++ s) with
      | nil => exact absurd e (pieces_ne 10 _)
      | cons p ps => exact ⟨p, ps, rfl⟩
    rw [List.replicate_succ, List.cons_append, pieces_skip (by decide) e, e]
    exact .cons (alike_ahead 1 p) (AllAlike.refl _)
theorem pieces_none {l : List UInt8} (h : (10 : UInt8) ∉ l) : pieces 10 l = [l] := by
  induction l with
  | nil => rfl
  | cons b l ih =>
    simp only [List.mem_cons, not_or] at h
    rw [pieces_skip (by simp; exact fun e => h.1 e.symm) (ih h.2)]
theorem pieces_last (u : List UInt8) (hu : (10 : UInt8) ∉ u) : ∀ s : List UInt8, ∃ ps p, pieces 10 s = ps ++ [p] ∧ pieces 10 (s ++ u) = ps ++ [p ++ u]
  | [] => ⟨[], [], rfl, by rw [List.nil_append, pieces_none hu]; rfl⟩
  | b :: s => by
    obtain ⟨ps, p, h1, h2⟩ := pieces_last u hu s
    rw [List.cons_append]
    by_cases hb : (b == 10) = true
    · exact ⟨[] :: ps, p, by rw [pieces_hit hb, h1]; rfl, by rw [pieces_hit hb, h2]; rfl⟩
    · cases ps with
      | nil => exact ⟨[], b :: p, pieces_skip hb h1, pieces_skip hb h2⟩
      | cons q ps => exact ⟨(b :: q) :: ps, p, pieces_skip hb h1, pieces_skip hb h2⟩
theorem alike_last {p q : List UInt8} (h : Alike p q) : ∀ ps : List (List UInt8), AllAlike (ps ++ [p]) (ps ++ [q])
  | [] => .cons h .nil
  | x :: ps => .cons (Alike.refl x) (alike_last h ps)
theorem pieces_behind (n : Nat) (r : List UInt8) (hr : (10 : UInt8) ∉ r) (s : List UInt8) : AllAlike (pieces 10 (s ++ (List.replicate n 32 ++ 35 :: r))) (pieces 10 s) := by
  obtain ⟨ps, p, h1, h2⟩ := pieces_last (List.replicate n 32 ++ 35 :: r) (by
    simp only [List.mem_append, List.mem_cons, not_or]
    exact ⟨fun h => absurd (List.eq_of_mem_replicate h) (by decide), by decide, hr⟩) s
  rw [h1, h2]
  exact alike_last (alike_behind n r p) ps
/-- blanks ahead of a text and behind it, and a remark behind it, change nothing -/
theorem text_blanks (n : Nat) (s r : List UInt8) (hr : (10 : UInt8) ∉ r) : firstBad (itemsOf (List.replicate n 32 ++ (s ++ (List.replicate n 32 ++ 35 :: r)))) = firstBad (itemsOf s) ∧ textL (List.replicate n 32 ++ (s ++ (List.replicate n 32 ++ 35 :: r))) = textL s := by
  unfold textL itemsOf
  exact ((pieces_blanks n _).trans (pieces_behind n r hr s)).items 1
end Go.Proofs.YtckbdnkonccmiaaDoor
namespace Go.Proofs.YtckbdnkonccmiaaDoor
open Go.RowKit
theorem builder_size : (Tryd.prog.info? 78).map (·.size) = some 2 := by kernel_rfl
theorem builder_lies : liesAt Tryd.prog Tryd.prog.depth 78 (2 / Tryd.prog.cellsOf 78) 0 78 1 = true := by kernel_rfl
theorem byte_info : (Tryd.prog.info? 5).map (fun i => (i.zero, i.size, i.bytes)) = some (some (.int .u8 0), 1, 1) := by kernel_rfl
set_option maxHeartbeats 1000000 in
set_option maxRecDepth 100000 in
theorem copyCheck_used (b : Nat) (w : World) (h0 : w.cell? ⟨b, 0, none⟩ = some (.pointer (some ⟨b, 0, none⟩))) :
    Calls Tryd.prog 62 #[.pointer (some ⟨b, 0, none⟩)] w fun e w' => e = .returned (.tuple #[]) ∧ w' = w := by
  obtain ⟨j, hj, _⟩ := Option.map_eq_some_iff.1 builder_size
  go_enter Tryd.func62, Tryd.ntmps62
  go_wp2
  rw [Lib.run_neq_ptr_same w _ Tryd.underlying75 hj]
  go_wp2
  go_end0
  exact ⟨rfl, rfl⟩
set_option maxHeartbeats 1000000 in
set_option maxRecDepth 100000 in
theorem copyCheck_fresh (b : Nat) (w : World) (h0 : w.cell? ⟨b, 0, none⟩ = some (.pointer none)) (hsh : w.shape? b = some (78, 2)) (hfz : w.frozen? ⟨b, 0, none⟩ = false) :
    Calls Tryd.prog 62 #[.pointer (some ⟨b, 0, none⟩)] w fun e w' => e = .returned (.tuple #[]) ∧ w' = w.setCell ⟨b, 0, none⟩ (.pointer (some ⟨b, 0, none⟩)) := by
  obtain ⟨j, hj, hjs⟩ := Option.map_eq_some_iff.1 builder_size
  go_enter Tryd.func62, Tryd.ntmps62
  go_wp2
  rw [Lib.run_to_unsafe w ⟨b, 0, none⟩ Tryd.underlying75 Tryd.underlying124 hj (by rw [hjs]; decide) hsh (Nat.zero_lt_succ 1)]
  simp only [Result.andThen]
  rw [Oper.upon_value]
  go_wp2
  rw [run_callFunc_extern Tryd.func80 (by kernel_rfl) (by kernel_rfl) (by kernel_rfl) (e := Extern.AbiNoEscape.same) (by kernel_rfl)]
  rw [Lib.run_noEscape]
  simp only [Result.andThen]
  rw [Oper.upon_value]
  go_wp2
  rw [Lib.run_from_unsafe w ⟨b, 0, none⟩ Tryd.underlying124 Tryd.underlying75 hj hsh builder_lies]
  simp only [Result.andThen]
  rw [Oper.upon_value]
  go_wp2
  go_end0
  exact ⟨rfl, rfl⟩
theorem copyCheck_any (B b : Nat) (bs : List Value) (w : World) (h : Lib.IsBuilder 78 5 B b bs w) :
    Calls Tryd.prog 62 #[.pointer (some ⟨b, 0, none⟩)] w fun e w' => e = .returned (.tuple #[]) ∧ (Lib.BuilderAt 78 5 B b (.pointer (some ⟨b, 0, none⟩)) bs w' ∧ Below B w w') := by
  rcases h with h | h
  · refine (copyCheck_fresh b w h.cell0 h.shape h.frozen0).mono ?_
    rintro e w' ⟨rfl, rfl⟩
    exact ⟨rfl, h.used _, (Below.refl B w).setCell (p := ⟨b, 0, none⟩) h.1 _⟩
  · refine (copyCheck_used b w h.cell0).mono ?_
    rintro e w' ⟨rfl, rfl⟩
    exact ⟨rfl, h, Below.refl B _⟩
set_option maxHeartbeats 2000000 in
set_option maxRecDepth 100000 in
theorem writeByte_any (B b : Nat) (bs : List Value) (c : Int) (w : World) (h : Lib.IsBuilder 78 5 B b bs w) (hlen : bs.length + 1 ≤ 140737488355328) (hBw : B ≤ w.heap.size) :
    Calls Tryd.prog 37 #[.pointer (some ⟨b, 0, none⟩), .int .u8 c] w fun e w' => e = .returned .nilIface ∧ (Lib.BuilderAt 78 5 B b (.pointer (some ⟨b, 0, none⟩)) (bs ++ [.int .u8 c]) w' ∧ Below B w w') := by
  obtain ⟨i0, hi, hz0, hz1, hz2⟩ := info_parts byte_info
  go_enter Tryd.func37, Tryd.ntmps37
  go_wp2_with (go_at_call 62; refine (copyCheck_any B b bs _ h).mono ?_)
  rintro e w1 ⟨rfl, h1, hb1⟩
  obtain ⟨hB, v, hbk, hown, hne⟩ := h1
  have c0 : w1.cell? ⟨b, 0, none⟩ = some (.pointer (some ⟨b, 0, none⟩)) := by rw [Lib.cell_of_heap hbk]; rfl
  have c1 : w1.cell? ⟨b, 1, none⟩ = some v := by rw [Lib.cell_of_heap hbk]; rfl
  go_wp2_with (at_builtin; refine wpList_append_own _ rfl _ _ 76 rfl B 5 i0 (.int .u8 0) 1 1 Tryd.underlying76 hi hz0 hz1 hz2 rfl (by decide) _ _ _ rfl (hown.alloc _) ⟨w1.heap.size, 0, none⟩ 1 1 [.int .u8 c] rfl rfl ?c1 ?c2 ?c3 ?c4 ?c5 ?_)
  case c1 =>
    intro j u hj
    match j, hj with
    | 0, hj => simp at hj; subst hj; simp [Addr.add]
  case c2 => intro u hu; simp at hu; subst hu; rfl
  case c3 => unfold maxLen; omega
  case c4 => omega
  case c5 => have := hb1.size; simp; omega
  intro v' w2 hown' hgrow _
  have hlt : b < w1.heap.size := by
    rcases Nat.lt_or_ge b w1.heap.size with h' | h'
    · exact h'
    · simp [Array.getElem?_eq_none h'] at hbk
  have hb2 : w2.heap[b]? = some (.cells #[.pointer (some ⟨b, 0, none⟩), v] 78 (0, 0)) := by
    rw [hgrow.block b (by simp; omega) (fun e => hne e.symm), Lib.alloc_old w1 _ b hlt]
    exact hbk
  have d0 : w2.cell? ⟨b, 0, none⟩ = some (.pointer (some ⟨b, 0, none⟩)) := by rw [Lib.cell_of_heap hb2]; rfl
  have d1 : w2.cell? ⟨b, 1, none⟩ = some v := by rw [Lib.cell_of_heap hb2]; rfl
  have f1 : w2.frozen? ⟨b, 1, none⟩ = false := Lib.frozen_of_heap hb2 1
  obtain ⟨g, cap, rfl⟩ : ∃ g cap, v' = .slice (some ⟨g, 0, none⟩) (bs.length + 1) cap := by
    rcases hown'.2 with ⟨_, h0⟩ | ⟨g, cap, cur, hv, _⟩
    · omega
    · exact ⟨g, cap, hv⟩
  go_wp2
  go_ret
  refine ⟨rfl, ?_, ?_⟩
  · exact Lib.BuilderAt.put (T := 78) (e := 5) hB hb2 (bs' := bs ++ [.int .u8 c]) (by simpa using hown') (by decide)
  · exact ((hb1.alloc (by have := hb1.size; omega) _).grown hgrow (by have := hb1.size; simp; omega) (fun k hk => (hown.lt k hk).1)).setCell (p := ⟨b, 1, none⟩) hB _
set_option maxHeartbeats 2000000 in
set_option maxRecDepth 100000 in
theorem writeString_any (B b : Nat) (bs : List Value) (s : ByteArray) (w : World) (h : Lib.IsBuilder 78 5 B b bs w) (hlen : bs.length + s.size ≤ 140737488355328) (hBw : B ≤ w.heap.size) :
    Calls Tryd.prog 38 #[.pointer (some ⟨b, 0, none⟩), .string s] w fun e w' => e = .returned (.tuple #[.int .i64 s.size, .nilIface]) ∧ (Lib.BuilderAt 78 5 B b (.pointer (some ⟨b, 0, none⟩)) (bs ++ Lib.strCells s) w' ∧ Below B w w') := by
  obtain ⟨i0, hi, hz0, hz1, hz2⟩ := info_parts byte_info
  go_enter Tryd.func38, Tryd.ntmps38
  go_wp2_with (go_at_call 62; refine (copyCheck_any B b bs _ h).mono ?_)
  rintro e w1 ⟨rfl, h1, hb1⟩
  obtain ⟨hB, v, hbk, hown, hne⟩ := h1
  have c0 : w1.cell? ⟨b, 0, none⟩ = some (.pointer (some ⟨b, 0, none⟩)) := by rw [Lib.cell_of_heap hbk]; rfl
  have c1 : w1.cell? ⟨b, 1, none⟩ = some v := by rw [Lib.cell_of_heap hbk]; rfl
  go_wp2_with (at_builtin; refine Lib.wpList_append_own_string _ rfl _ _ 76 9 rfl B 5 i0 Tryd.underlying76 Tryd.underlying9 hi hz0 hz1 hz2 _ _ _ rfl hown s rfl ?c3 ?c4 ?c5 ?_)
  case c3 => unfold maxLen; omega
  case c4 => omega
  case c5 => have := hb1.size; omega
  intro v' w2 hown' hgrow _
  have hlt : b < w1.heap.size := by
    rcases Nat.lt_or_ge b w1.heap.size with h' | h'
    · exact h'
    · simp [Array.getElem?_eq_none h'] at hbk
  have hb2 : w2.heap[b]? = some (.cells #[.pointer (some ⟨b, 0, none⟩), v] 78 (0, 0)) := by
    rw [hgrow.block b hlt (fun e => hne e.symm)]
    exact hbk
  have d0 : w2.cell? ⟨b, 0, none⟩ = some (.pointer (some ⟨b, 0, none⟩)) := by rw [Lib.cell_of_heap hb2]; rfl
  have d1 : w2.cell? ⟨b, 1, none⟩ = some v := by rw [Lib.cell_of_heap hb2]; rfl
  have f1 : w2.frozen? ⟨b, 1, none⟩ = false := Lib.frozen_of_heap hb2 1
  obtain ⟨ao, n', cap, rfl⟩ : ∃ ao n' cap, v' = .slice ao n' cap := by
    rcases hown'.2 with ⟨hv, _⟩ | ⟨g, cap, cur, hv, _⟩
    · exact ⟨_, _, _, hv⟩
    · exact ⟨_, _, _, hv⟩
  go_wp2
  go_ret2
  refine ⟨rfl, ?_, ?_⟩
  · exact Lib.BuilderAt.put (T := 78) (e := 5) hB hb2 (bs' := bs ++ Lib.strCells s) (by simpa [Lib.strCells_length] using hown') (by decide)
  · exact (hb1.grown hgrow (by have := hb1.size; omega) (fun k hk => (hown.lt k hk).1)).setCell (p := ⟨b, 1, none⟩) hB _
end Go.Proofs.YtckbdnkonccmiaaDoor
namespace Go.Proofs.YtckbdnkonccmiaaDoor
open Go.RowKit
/-- the words of a line, as bytes -/
def Ln.bs (x : Ln) : List (List UInt8) := x.ws.map (fun s => s.data.toList)
theorem printL_append (a b : List (List (List UInt8))) : printL (a ++ b) = printL a ++ printL b := by unfold printL; rw [List.flatMap_append]
theorem printL_one (ws : List (List UInt8)) : printL [ws] = joinW ws ++ [10] := by unfold printL; simp
theorem joinW_step (ws : List (List UInt8)) (w : List UInt8) (hne : ws ≠ []) : joinW (ws ++ [w]) = joinW ws ++ 32 :: w := by
  cases ws with
  | nil => exact absurd rfl hne
  | cons v ws => simp [joinW, List.flatMap_append]
theorem joinW_len : ∀ (ws : List (List UInt8)) (j : Nat) (v : List UInt8), ws[j]? = some v → (joinW (ws.take j)).length + 1 + v.length ≤ (joinW ws).length + 1 := by
  have key : ∀ (ws : List (List UInt8)) (j : Nat) (v : List UInt8), ws[j]? = some v → ((ws.take j).flatMap (fun u => 32 :: u)).length + 1 + v.length ≤ (ws.flatMap (fun u => 32 :: u)).length := by
    intro ws
    induction ws with
    | nil => intro j v h; simp at h
    | cons u ws ih =>
      intro j v h
      cases j with
      | zero => simp at h; subst h; simp; omega
      | succ j =>
        rw [List.getElem?_cons_succ] at h
        have := ih j v h
        rw [List.take_succ_cons, List.flatMap_cons, List.flatMap_cons, List.length_append, List.length_append]
        omega
  intro ws j v h
  cases ws with
  | nil => simp at h
  | cons u ws =>
    cases j with
    | zero => simp at h; subst h; simp [joinW]; omega
    | succ j =>
      rw [List.getElem?_cons_succ] at h
      have := key ws j v h
      rw [List.take_succ_cons]
      unfold joinW
      rw [List.length_append, List.length_append]
      omega
theorem printL_len {ls : List (List (List UInt8))} {k : Nat} {ws : List (List UInt8)} (h : ls[k]? = some ws) : (printL (ls.take k)).length + (joinW ws).length + 1 ≤ (printL ls).length := by
  obtain ⟨hk, he⟩ := List.getElem?_eq_some_iff.1 h
  have e : ls = ls.take k ++ (ws :: ls.drop (k + 1)) := by
    rw [← he, ← List.drop_eq_getElem_cons hk, List.take_append_drop]
  have e2 : printL ls = printL (ls.take k) ++ printL (ws :: ls.drop (k + 1)) := by rw [← printL_append, ← e]
  rw [e2, List.length_append]
  unfold printL
  rw [List.flatMap_cons, List.length_append, List.length_append, List.length_singleton]
  omega
theorem take_snoc1 {α : Type} {l : List α} {k : Nat} {x : α} (h : l[k]? = some x) : l.take (k + 1) = l.take k ++ [x] := by
  rw [List.take_add_one, h]; rfl
theorem cells_snoc (l : List UInt8) (c : UInt8) : Lib.byteCells (l ++ [c]) = Lib.byteCells l ++ [.int .u8 (c.toNat : Int)] := by simp [Lib.byteCells]
theorem cells_append (l m : List UInt8) : Lib.byteCells (l ++ m) = Lib.byteCells l ++ Lib.byteCells m := by simp [Lib.byteCells]
theorem snoc_len (l : List UInt8) (c : UInt8) : (l ++ [c]).length = l.length + 1 := by simp
abbrev IsB (B b : Nat) (l : List UInt8) (w : World) : Prop := Lib.IsBuilder 78 5 B b (Lib.byteCells l) w
theorem builderAt_below {B b : Nat} {p : Value} {bs : List Value} {w w' : World} (h : Lib.BuilderAt 78 5 B b p bs w) (hb : Below w.heap.size w w') : Lib.BuilderAt 78 5 B b p bs w' := by
  obtain ⟨h1, v, h2, h3, h4⟩ := h
  exact ⟨h1, v, (hb.block b (Array.getElem?_eq_some_iff.1 h2).1).trans h2, own_below h3 hb, h4⟩
theorem isB_below {B b : Nat} {l : List UInt8} {w w' : World} (h : IsB B b l w) (hb : Below w.heap.size w w') : IsB B b l w' := by
  rcases h with h | h
  · exact .inl (builderAt_below h hb)
  · exact .inr (builderAt_below h hb)
/-- what a writing call leaves -/
theorem byte_is (w0 w : World) (l : List UInt8) (c : UInt8) (n : Int) (hn : n = (c.toNat : Int)) (h : IsB w0.heap.size w0.heap.size l w) (hb : Below w0.heap.size w0 w) (hl : l.length + 1 ≤ 2000000) :
    Calls Tryd.prog 37 #[.pointer (some ⟨w0.heap.size, 0, none⟩), .int .u8 n] w fun e w' => e = .returned .nilIface ∧ IsB w0.heap.size w0.heap.size (l ++ [c]) w' ∧ Below w0.heap.size w0 w' := by
  subst hn
  refine (writeByte_any _ _ _ _ _ h (by rw [Lib.byteCells_length]; omega) hb.size).mono ?_
  rintro e w' ⟨rfl, h1, h2⟩
  refine ⟨rfl, ?_, hb.trans h2⟩
  unfold IsB
  rw [cells_snoc]
  exact .inr h1
theorem string_is (w0 w : World) (l : List UInt8) (s : ByteArray) (h : IsB w0.heap.size w0.heap.size l w) (hb : Below w0.heap.size w0 w) (hl : l.length + s.size ≤ 2000000) :
    Calls Tryd.prog 38 #[.pointer (some ⟨w0.heap.size, 0, none⟩), .string s] w fun e w' => e = .returned (.tuple #[.int .i64 s.size, .nilIface]) ∧ IsB w0.heap.size w0.heap.size (l ++ s.data.toList) w' ∧ Below w0.heap.size w0 w' := by
  refine (writeString_any _ _ _ _ _ h (by rw [Lib.byteCells_length]; omega) hb.size).mono ?_
  rintro e w' ⟨rfl, h1, h2⟩
  refine ⟨rfl, ?_, hb.trans h2⟩
  unfold IsB
  rw [cells_append]
  exact .inr h1
/-- what stands between two writes -/
def Bld (w0 : World) (l : List UInt8) (w : World) : Prop := IsB w0.heap.size w0.heap.size l w ∧ Below w0.heap.size w0 w
set_option maxHeartbeats 2000000 in
set_option maxRecDepth 100000 in
theorem print_any (w : World) (xs : List Ln) (v : Value) (h : LsAt w xs v) (hn : xs.length ≤ 1125899906842624) (hsz : (printL (xs.map Ln.bs)).length ≤ 1000000) :
    Calls Tryd.prog 22 #[v] w fun e w' => e = .returned (.string (toB (printL (xs.map Ln.bs)))) ∧ Below w.heap.size w w' := by
  obtain ⟨A, c, e, hc, -⟩ := id h.1
  subst e
  have HX := Lib.hid h
  have HS := Lib.hid hsz
  clear h hsz
  go_enter Tryd.func22, Tryd.ntmps22
  go_wp2_with fail
  have HB0 : Hid (Bld w [] (w.alloc (.cells #[.pointer none, .slice none 0 0] 78))) := Lib.hid ⟨Lib.fresh_isBuilder _ _ _, (Below.refl _ _).alloc (Nat.le_refl _) _⟩
  go_loopw [10] (fun i wr => ∃ k : Nat, k ≤ xs.length ∧ i = .int .i64 k ∧ Hid (Bld w (printL ((xs.map Ln.bs).take k)) wr)) (fun i _ => xs.length - (intOf i).toNat)
  case atStart => exact ⟨0, Nat.zero_le _, rfl, HB0⟩
  case round =>
    clear HB0
    obtain ⟨k, hk, rfl, HW⟩ := hrel
    by_cases hlt : k < xs.length
    · obtain ⟨x, hx⟩ : ∃ x, xs[k]? = some x := ⟨_, List.getElem?_eq_getElem hlt⟩
      have hL := HX.out.below HW.out.2
      obtain ⟨g, off, hA, hg, hcell⟩ := row_at hL.1 hx
      subst hA
      have y0 := hcell 0 _ rfl
      have y1 := hcell 1 _ rfl
      clear hcell
      simp only [Nat.add_zero] at y0
      have hXW := HX.out.2 x (List.mem_of_getElem? hx)
      obtain ⟨xn, xv, xw⟩ := x
      obtain ⟨B, d, e, hd, -⟩ := id hXW.1
      simp only at e y0 y1
      subst e
      have hlw := hXW.2
      have HXW := Lib.hid hXW
      have hbs : (xs.map Ln.bs)[k]? = some (xw.map (fun s => s.data.toList)) := by rw [List.getElem?_map, hx]; rfl
      obtain ⟨F, hF⟩ : ∃ F, F = xw.map (fun s : ByteArray => s.data.toList) := ⟨_, rfl⟩
      rw [← hF] at hbs
      obtain ⟨T, hT⟩ : ∃ T, T = printL ((xs.map Ln.bs).take k) := ⟨_, rfl⟩
      have hTn : printL ((xs.map Ln.bs).take (k + 1)) = T ++ joinW F ++ [10] := by rw [take_snoc1 hbs, printL_append, printL_one, hT, List.append_assoc]
      have hTl := printL_len hbs
      have hTs := HS.out
      rw [← hT] at HW hTl
      have hTb : T.length + (joinW F).length + 1 ≤ 1000000 := by omega
      have HTN := Lib.hid hTn
      have HF := Lib.hid hF
      have HTB := Lib.hid hTb
      have hk1 : (k : Int) < (xs.length : Int) := by omega
      have hk0 : (0 : Int) ≤ (k : Int) := by omega
      simp only at hlw
      clear hx hT hTn hTl hTs hTb hF hbs hXW hL
      go_wp2_with fail
      have HW0 : Hid (Bld w (T ++ joinW (F.take 0)) (wr.alloc (.cells #[.int .i64 xn, .slice B xw.length d] 50))) := Lib.hid (by
        have hb : Below wr.heap.size wr (wr.alloc (.cells #[.int .i64 xn, .slice B xw.length d] 50)) := (Below.refl _ _).alloc (Nat.le_refl _) _
        refine ⟨?_, HW.out.2.trans (hb.mono HW.out.2.size)⟩
        rw [show T ++ joinW (F.take 0) = T by simp [joinW]]
        exact isB_below HW.out.1 hb)
      clear y0 y1 HW
      go_loopw [17] (fun i wr => ∃ j : Nat, j ≤ xw.length ∧ i = .int .i64 j ∧ Hid (Bld w (T ++ joinW (F.take j)) wr)) (fun i _ => xw.length - (intOf i).toNat)
      case atStart => exact ⟨0, Nat.zero_le _, rfl, HW0⟩
      case round =>
        clear HW0
        obtain ⟨j, hj, rfl, HV⟩ := hrel
        by_cases hjl : j < xw.length
        · obtain ⟨s, hs⟩ : ∃ s, xw[j]? = some s := ⟨_, List.getElem?_eq_getElem hjl⟩
          have hfs : F[j]? = some s.data.toList := by rw [HF.out, List.getElem?_map, hs]; rfl
          obtain ⟨g2, off2, hA, hcell⟩ := one_at (LawFrame.RowsAt.below HXW.out.1 HV.out.2) hs
          subst hA
          have z0 := hcell _ rfl
          have hjlen := joinW_len F j _ hfs
          have hsz : s.data.toList.length = s.size := by simp
          rw [hsz] at hjlen
          have hb1 := HTB.out
          have hlen1 : (T ++ joinW (F.take j)).length + 1 ≤ 2000000 := by rw [List.length_append]; omega
          have hlen2 : (T ++ joinW (F.take j)).length + s.size ≤ 1900000 := by rw [List.length_append]; omega
          have HL1 := Lib.hid hlen1
          have HL2 := Lib.hid hlen2
          have HFS := Lib.hid hfs
          have hj1 : (j : Int) < (xw.length : Int) := by omega
          have hj0 : (0 : Int) ≤ (j : Int) := by omega
          clear hcell hs hfs hjlen hsz hb1 hlen1 hlen2
          by_cases hj2 : j = 0
          · have hd0 : ¬ (0 : Int) < (j : Int) := by omega
            have HJ := Lib.hid hj2
            clear hj2
            go_wp2_with (go_at_call 38; refine (string_is w _ _ s HV.out.1 HV.out.2 (by have := HL2.out; omega)).mono ?_; rintro e w1 ⟨rfl, h1, h2⟩; have H1 := Lib.hid (And.intro h1 h2); clear h1 h2 z0)
            go_roundw
            case rel => exact ⟨j + 1, by omega, by go_num, Lib.hid (by
              have h1 := H1.out
              have h2 := HFS.out
              have h3 := HJ.out
              subst h3
              unfold Bld
              rw [take_snoc1 h2]
              simpa [joinW] using h1)⟩
            case measure => simp [intOf]; omega
          · have hd0 : (0 : Int) < (j : Int) := by omega
            have HJ := Lib.hid hj2
            clear hj2
            go_wp2_with (first | (go_at_call 37; refine (byte_is w _ _ 32 32 rfl HV.out.1 HV.out.2 HL1.out).mono ?_; rintro e w1 ⟨rfl, h1, h2⟩; have H1 := Lib.hid (And.intro h1 h2); clear h1 h2 z0) | (go_at_call 38; refine (string_is w _ _ s H1.out.1 H1.out.2 (by have := HL2.out; rw [snoc_len]; omega)).mono ?_; rintro e w2 ⟨rfl, h1, h2⟩; have H2 := Lib.hid (And.intro h1 h2); clear h1 h2))
            go_roundw
            case rel => exact ⟨j + 1, by omega, by go_num, Lib.hid (by
              have h1 := H2.out
              have h2 := HFS.out
              have hne : F.take j ≠ [] := by
                intro e
                have := congrArg List.length e
                have hjF := (List.getElem?_eq_some_iff.1 h2).1
                rw [List.length_take, List.length_nil] at this
                have h0 := HJ.out
                omega
              unfold Bld
              rw [take_snoc1 h2, joinW_step _ _ hne]
              simpa using h1)⟩
            case measure => simp [intOf]; omega
        · have hj2 : ¬ (j : Int) < (xw.length : Int) := by omega
          have hjF : j = F.length := by rw [HF.out]; simp; omega
          have HV2 : Hid (Bld w (T ++ joinW F) wr) := Lib.hid (by have := HV.out; rw [hjF, List.take_length] at this; exact this)
          have HL3 := Lib.hid (show (T ++ joinW F).length + 1 ≤ 2000000 by have := HTB.out; rw [List.length_append]; omega)
          clear hjF HV
          go_wp2_with (go_at_call 37; refine (byte_is w _ _ 10 10 rfl HV2.out.1 HV2.out.2 HL3.out).mono ?_; rintro e w1 ⟨rfl, h1, h2⟩; have H1 := Lib.hid (And.intro h1 h2); clear h1 h2)
          go_roundw
          case rel => exact ⟨k + 1, by omega, by go_num, Lib.hid (by rw [HTN.out]; exact H1.out)⟩
          case measure => simp [intOf]; omega
    · have hk2 : ¬ (k : Int) < (xs.length : Int) := by omega
      have HV2 : Hid (Bld w (printL (xs.map Ln.bs)) wr) := Lib.hid (by have := HW.out; rw [show k = (xs.map Ln.bs).length by simp; omega, List.take_length] at this; exact this)
      clear HW
      go_wp2_with (go_at_call 39; refine (Tryd.Builder_String_any w.heap.size w.heap.size _ _ HV2.out.1 HV2.out.2.size).mono ?_; rintro e w1 ⟨rfl, h1⟩; have H1 := Lib.hid h1; clear h1)
      go_ret
      exact ⟨rfl, HV2.out.2.trans H1.out⟩
end Go.Proofs.YtckbdnkonccmiaaDoor
namespace Go.Proofs.YtckbdnkonccmiaaDoor
open Go.RowKit
theorem lns_ls {W : World} {B n : Nat} {l : List (Int × List ByteArray)} {v : Value} (h : LnsAt W B l n v) (hl : ∀ x ∈ l, x.2.length ≤ 1000000) : ∃ xs : List Ln, n = xs.length ∧ xs.map Ln.told = l ∧ LsAt W xs v := by
  obtain ⟨xs, h1, h2, h3, h4⟩ := h
  refine ⟨xs, h1, h2, LawFrame.RowsAt.of_own Ln.cells_len (by decide) h3, fun x hx => ?_⟩
  obtain ⟨B', hB⟩ := h4 x hx
  refine ⟨LawFrame.RowsAt.of_own sC_len (by decide) hB, ?_⟩
  have := hl x.told (by rw [← h2]; exact List.mem_map_of_mem hx)
  unfold Ln.told at this
  simp only at this
  omega
theorem told_small (l : List UInt8) (h : textE l = none) : ∀ x ∈ toldL (textL l), x.2.length ≤ 1000000 := by
  intro x hx
  unfold toldL at hx
  obtain ⟨y, hy, rfl⟩ := List.mem_map.1 hx
  have := (textL_fine (textE_none h).2 y hy).2.1
  unfold toldOf
  simp only [List.length_map]
  omega
theorem lines_s (w : World) (s : ByteArray) (hs : s.size ≤ 1000000) (ht : Tab w) : Calls Tryd.prog 30 #[.string s] w (LinesIs s.data.toList (textE s.data.toList) w) := by
  have h := lines_any w s.data.toList (by simpa using hs) ht
  rw [toB_of] at h
  exact h
/-- lines that are told -/
def LinesOk (l : List UInt8) (w : World) (e : Ending) (w' : World) : Prop := ∃ (xs : List Ln) (A : Option Addr) (c : Nat), e = .returned (.tuple #[.slice A xs.length c, .int .i64 0, .int .i64 0]) ∧ xs.map Ln.told = toldL (textL l) ∧ LsAt w' xs (.slice A xs.length c) ∧ Below w.heap.size w w'
theorem lines_ok (w : World) (s : ByteArray) (hs : s.size ≤ 1000000) (ht : Tab w) (he : textE s.data.toList = none) : Calls Tryd.prog 30 #[.string s] w (LinesOk s.data.toList w) := by
  refine (lines_s w s hs ht).mono ?_
  intro e w' h
  unfold LinesIs at h
  rw [he] at h
  obtain ⟨A, n, c, rfl, h1, h2⟩ := h
  obtain ⟨xs, rfl, h3, h4⟩ := lns_ls h1 (told_small _ he)
  exact ⟨xs, A, c, rfl, h3, h4, h2⟩
theorem lines_bad (w : World) (s : ByteArray) (hs : s.size ≤ 1000000) (ht : Tab w) {k no : Int} (he : textE s.data.toList = some (k, no)) : Calls Tryd.prog 30 #[.string s] w fun e w' => e = .returned (.tuple #[.slice none 0 0, .int .i64 k, .int .i64 no]) ∧ Below w.heap.size w w' := by
  refine (lines_s w s hs ht).mono ?_
  intro e w' h
  unfold LinesIs at h
  rw [he] at h
  exact h
theorem bs_told {xs : List Ln} {l : List (Int × List ByteArray)} (h : xs.map Ln.told = l) : xs.map Ln.bs = l.map (fun p => p.2.map (fun s => s.data.toList)) := by
  rw [← h, List.map_map]; rfl
theorem print_s (w : World) (xs : List Ln) (v : Value) (h : LsAt w xs v) (hn : xs.length ≤ 1125899906842624) (hsz : (printL (xs.map Ln.bs)).length ≤ 1000000) :
    Calls Tryd.prog 22 #[v] w fun e w' => ∃ P, e = .returned (.string P) ∧ P = toB (printL (xs.map Ln.bs)) ∧ Below w.heap.size w w' := by
  refine (print_any w xs v h hn hsz).mono ?_
  rintro e w' ⟨rfl, hb⟩
  exact ⟨_, rfl, rfl, hb⟩
theorem lit_strs (w : World) (l : List ByteArray) (hl : l.length ≤ 1000000) : StrsAt (w.alloc (.cells (l.map Value.string).toArray 9)) l (.slice (some ⟨w.heap.size, 0, none⟩) l.length l.length) := by
  refine LawFrame.RowsAt.of_own (base := w.heap.size) (e := 9) (n := l.length) sC_len (by decide) ?_
  have e : l.flatMap sC = l.map Value.string := LawFrame.flat_one Value.string l
  rw [e]
  exact World.ownsRow_lit (base := w.heap.size) (e := 9) (size := 1) w (l.map Value.string).toArray l.length (Nat.le_refl _) (by simp only [maxLen]; omega) (by simp)
theorem told_len {xs : List Ln} {s : List UInt8} {p : Int × Int} {q r : Prop} (h : textE s = some p ∧ xs = [] ∨ textE s = none ∧ q ∧ r ∧ xs.map Ln.told = toldL (textL s)) : xs.length ≤ s.length + 1 := by
  rcases h with ⟨-, rfl⟩ | ⟨-, -, -, h⟩
  · simp
  · have e : xs.length = (textL s).length := by
      have := congrArg List.length h
      unfold toldL at this
      simpa using this
    have h1 := gather_len (itemsOf s)
    have h2 := (itemsOf_small s).1
    unfold textL at e
    omega
/-- what Lines hands back, of any text -/
def LinesAll (l : List UInt8) (w : World) (e : Ending) (w' : World) : Prop := ∃ (xs : List Ln) (A : Option Addr) (c : Nat) (k no : Int), e = .returned (.tuple #[.slice A xs.length c, .int .i64 k, .int .i64 no]) ∧ LsAt w' xs (.slice A xs.length c) ∧ Below w.heap.size w w' ∧
  (textE l = some (k, no) ∧ xs = [] ∨ textE l = none ∧ k = 0 ∧ no = 0 ∧ xs.map Ln.told = toldL (textL l))
theorem ls_nil (w : World) : LsAt w [] (.slice none 0 0) := ⟨LawFrame.RowsAt.nil _ _ _, fun x hx => (by cases hx)⟩
theorem lines_all (w : World) (s : ByteArray) (hs : s.size ≤ 1000000) (ht : Tab w) : Calls Tryd.prog 30 #[.string s] w (LinesAll s.data.toList w) := by
  rcases he : textE s.data.toList with _ | ⟨k, no⟩
  · refine (lines_ok w s hs ht he).mono ?_
    rintro e w' ⟨xs, A, c, rfl, h1, h2, h3⟩
    exact ⟨xs, A, c, 0, 0, rfl, h2, h3, .inr ⟨he, rfl, rfl, h1⟩⟩
  · refine (lines_bad w s hs ht he).mono ?_
    rintro e w' ⟨rfl, h⟩
    exact ⟨[], none, 0, k, no, rfl, ls_nil _, h, .inl ⟨he, rfl⟩⟩
theorem fine_word {l : List UInt8} (h : fineW l) : wordB (toB l) = true := by
  unfold wordB
  rw [toB_size, toB_list]
  have h1 : 1 ≤ l.length := by
    have := List.length_pos_iff.2 h.1
    omega
  rw [decide_eq_true h1, decide_eq_true h.2.1, h.2.2]; rfl
theorem word_fine {s : ByteArray} (h : wordB s = true) : fineW s.data.toList := by
  unfold wordB at h
  simp only [Bool.and_eq_true, decide_eq_true_eq] at h
  obtain ⟨⟨h1, h2⟩, h3⟩ := h
  have hz : s.data.toList.length = s.size := by simp
  refine ⟨fun e => ?_, by rw [hz]; exact h2, h3⟩
  rw [e] at hz
  simp at hz
  omega
/-- what lines that are told are -/
structure LineOk (ends : Nat) (x : Ln) : Prop where
  lo : 1 ≤ x.no
  hi : x.no ≤ (ends : Int) + 1
  some_ : 1 ≤ x.ws.length
  few : x.ws.length ≤ 14
  word : ∀ w ∈ x.ws, wordB w = true
theorem told_get {xs : List Ln} {l : List (Nat × List (List UInt8))} (hx : xs.map Ln.told = toldL l) {k : Nat} {x : Ln} (h : xs[k]? = some x) : ∃ y, l[k]? = some y ∧ x.no = (y.1 : Int) ∧ x.ws = y.2.map toB := by
  have e : (toldL l)[k]? = some x.told := by rw [← hx, List.getElem?_map, h]; rfl
  unfold toldL at e
  rw [List.getElem?_map, Option.map_eq_some_iff] at e
  obtain ⟨y, hy, e⟩ := e
  unfold toldOf Ln.told at e
  simp only [Prod.mk.injEq] at e
  exact ⟨y, hy, e.1.symm, e.2.symm⟩
theorem line_facts {s : List UInt8} {xs : List Ln} (he : textE s = none) (hx : xs.map Ln.told = toldL (textL s)) : (∀ (k : Nat) (x : Ln), xs[k]? = some x → LineOk (ends s) x) ∧ ∀ (k : Nat) (x y : Ln), xs[k]? = some y → xs[k + 1]? = some x → y.no < x.no := by
  constructor
  · intro k x h
    obtain ⟨y, hy, h1, h2⟩ := told_get hx h
    have hm := List.mem_of_getElem? hy
    have hf := textL_fine (textE_none he).2 y hm
    have hn := (textL_numbers s).2 y hm
    refine ⟨by omega, by omega, ?_, ?_, ?_⟩
    · rw [h2, List.length_map]
      have := List.length_pos_iff.2 hf.1
      omega
    · rw [h2, List.length_map]; exact hf.2.1
    · intro w hw
      rw [h2] at hw
      obtain ⟨u, hu, rfl⟩ := List.mem_map.1 hw
      exact fine_word (hf.2.2 u hu)
  · intro k x y h h'
    obtain ⟨a, ha, h1, -⟩ := told_get hx h
    obtain ⟨b, hb, h2, -⟩ := told_get hx h'
    have hp := (textL_numbers s).1
    have hka := (List.getElem?_eq_some_iff.1 ha).1
    have hkb := (List.getElem?_eq_some_iff.1 hb).1
    have := List.pairwise_iff_getElem.1 hp k (k + 1) hka hkb (by omega)
    rw [(List.getElem?_eq_some_iff.1 ha).2, (List.getElem?_eq_some_iff.1 hb).2] at this
    omega
theorem flat_len' (ws : List (List UInt8)) : (ws.flatMap (fun v => 32 :: v)).length = ws.length + (ws.map List.length).sum := by
  induction ws with
  | nil => rfl
  | cons w ws ih => rw [List.flatMap_cons, List.length_append, ih]; simp; omega
theorem joinW_small (ws : List (List UInt8)) : (joinW ws).length ≤ ws.length + (ws.map List.length).sum := by
  cases ws with
  | nil => simp [joinW]
  | cons w ws =>
    unfold joinW
    rw [List.length_append, flat_len']
    simp; omega
/-- a line of words -/
def LFine (x : Ln) : Prop := 1 ≤ x.ws.length ∧ x.ws.length ≤ 14 ∧ ∀ u ∈ x.ws, wordB u = true
theorem lfine_bs {x : Ln} (h : LFine x) : fineL x.bs := by
  obtain ⟨h1, h2, h3⟩ := h
  refine ⟨fun e => ?_, by unfold Ln.bs; rw [List.length_map]; exact h2, fun w hw => ?_⟩
  · have := congrArg List.length e
    unfold Ln.bs at this
    rw [List.length_map, List.length_nil] at this
    omega
  · unfold Ln.bs at hw
    obtain ⟨u, hu, rfl⟩ := List.mem_map.1 hw
    exact word_fine (h3 u hu)
theorem fine_len : ∀ (ls : List (List (List UInt8))), (∀ ws ∈ ls, fineL ws) → (printL ls).length ≤ 239 * ls.length
  | [], _ => by simp [printL]
  | ws :: ls, h => by
    have h1 := fine_len ls (fun v hv => h v (by simp [hv]))
    have h2 := joinW_small ws
    obtain ⟨-, h3, h4⟩ := h ws (by simp)
    have key : ∀ (vs : List (List UInt8)), (∀ w ∈ vs, fineW w) → (vs.map List.length).sum ≤ 16 * vs.length := by
      intro vs
      induction vs with
      | nil => simp
      | cons v vs ih =>
        intro hv
        have a := (hv v (by simp)).2.1
        have b := ih (fun w hw => hv w (by simp [hw]))
        simp only [List.map_cons, List.sum_cons, List.length_cons]
        omega
    have h5 := key ws h4
    unfold printL at *
    rw [List.flatMap_cons, List.length_append, List.length_append, List.length_singleton, List.length_cons]
    omega
theorem bs_number {zs : List Ln} {n : Nat} {ls : List (List (List UInt8))} (h : zs.map Ln.told = toldL (number n ls)) : zs.map Ln.bs = ls := by
  rw [bs_told h]
  unfold toldL
  rw [List.map_map]
  have e : ((fun p : Int × List ByteArray => p.2.map (fun s => s.data.toList)) ∘ toldOf) = (fun x : Nat × List (List UInt8) => x.2) := by
    funext x
    unfold toldOf
    simp only [Function.comp_apply, List.map_map]
    have e : ((fun s : ByteArray => s.data.toList) ∘ toB) = id := by funext l; exact toB_list l
    rw [e, List.map_id]
  rw [e]
  exact number_snd n ls
theorem bs_inj {x y : Ln} (h : x.bs = y.bs) : x.ws = y.ws := by
  unfold Ln.bs at h
  have e := congrArg (List.map toB) h
  rw [List.map_map, List.map_map] at e
  have f : (toB ∘ fun s : ByteArray => s.data.toList) = id := by funext s; exact toB_of s
  rw [f, List.map_id, List.map_id] at e
  exact e
/-- lines of the same words, one by one -/
theorem same_at {zs xs : List Ln} (h : zs.map Ln.bs = xs.map Ln.bs) {k : Nat} {x z : Ln} (hx : xs[k]? = some x) (hz : zs[k]? = some z) : z.ws = x.ws := by
  have e := congrArg (·[k]?) h
  simp only [List.getElem?_map, hx, hz, Option.map_some, Option.some.injEq] at e
  exact bs_inj e
theorem number_at {zs : List Ln} {ls : List (List (List UInt8))} (h : zs.map Ln.told = toldL (number 1 ls)) {k : Nat} {z : Ln} (hz : zs[k]? = some z) : z.no = (k : Int) + 1 := by
  obtain ⟨y, hy, h1, -⟩ := told_get h hz
  rw [number_get, Option.map_eq_some_iff] at hy
  obtain ⟨u, -, rfl⟩ := hy
  rw [h1]
  simp only
  omega
/-- what Lines hands back of what was printed -/
theorem lines_printed (w : World) (ls : List (List (List UInt8))) (hf : ∀ ws ∈ ls, fineL ws) (ht : Tab w) (hl : (printL ls).length ≤ 4096) :
    Calls Tryd.prog 30 #[.string (toB (printL ls))] w fun e w' => ∃ (zs : List Ln) (A : Option Addr) (c : Nat), e = .returned (.tuple #[.slice A zs.length c, .int .i64 0, .int .i64 0]) ∧ zs.map Ln.told = toldL (number 1 ls) ∧ LsAt w' zs (.slice A zs.length c) ∧ Below w.heap.size w w' := by
  obtain ⟨h1, h2⟩ := text_print hf
  rw [if_neg (by omega)] at h1
  have h := lines_ok w (toB (printL ls)) (by rw [toB_size]; omega) ht (by rw [toB_list]; exact h1)
  unfold LinesOk at h
  rw [toB_list, h2] at h
  exact h
theorem lines_too_long (w : World) (ls : List (List (List UInt8))) (hf : ∀ ws ∈ ls, fineL ws) (ht : Tab w) (hl : 4096 < (printL ls).length) (hz : (printL ls).length ≤ 1000000) :
    Calls Tryd.prog 30 #[.string (toB (printL ls))] w fun e w' => e = .returned (.tuple #[.slice none 0 0, .int .i64 2, .int .i64 0]) ∧ Below w.heap.size w w' := by
  obtain ⟨h1, h2⟩ := text_print hf
  rw [if_pos hl] at h1
  exact lines_bad w (toB (printL ls)) (by rw [toB_size]; omega) ht (by rw [toB_list]; exact h1)
theorem LnsAt.row {W : World} {B n : Nat} {l : List (Int × List ByteArray)} {v : Value} (h : LnsAt W B l n v) : ∃ xs, W.ownsRow B 50 2 v n xs := by
  obtain ⟨xs, h1, h2, h3, h4⟩ := h
  exact ⟨_, h3⟩
theorem concat_list (s t : ByteArray) : (s ++ t).data.toList = s.data.toList ++ t.data.toList := by
  rw [ByteArray.data_append, Array.toList_append]
theorem concat_size (s t : ByteArray) : (s ++ t).size = s.size + t.size := ByteArray.size_append
theorem LnsAt.len {W : World} {B n : Nat} {l : List (Int × List ByteArray)} {v : Value} (h : LnsAt W B l n v) : n = l.length := by
  obtain ⟨xs, h1, h2, h3, h4⟩ := h
  rw [h1, ← h2, List.length_map]
end Go.Proofs.YtckbdnkonccmiaaDoor
