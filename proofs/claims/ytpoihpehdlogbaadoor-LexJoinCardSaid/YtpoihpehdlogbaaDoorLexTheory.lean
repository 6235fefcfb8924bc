/-
  Plain laws of texts, lines and words: what is printed is told again; what lines are told; two texts, one below the other; blanks and remarks.
-/
import Derived.Test.YtpoihpehdlogbaaDoorLexLns
namespace Go.Proofs.YtpoihpehdlogbaaDoor
open Go.RowKit
def fineW (w : List UInt8) : Prop := w ≠ [] ∧ w.length ≤ 16 ∧ w.all letterB = true
def fineL (ws : List (List UInt8)) : Prop := ws ≠ [] ∧ ws.length ≤ 14 ∧ ∀ w ∈ ws, fineW w
/-- words, with blanks between -/
def joinW : List (List UInt8) → List UInt8
  | [] => []
  | w :: ws => w ++ ws.flatMap (fun v => 32 :: v)
def printL (ls : List (List (List UInt8))) : List UInt8 := ls.flatMap (fun ws => joinW ws ++ [10])
theorem letter_sp {c : UInt8} (h : letterB c = true) : Lib.isSp c = false := by
  have h1 := (letterB_iff c).1 h
  unfold Lib.isSp
  simp only [Bool.or_eq_false_iff, beq_eq_false_iff_ne, ne_eq]
  refine ⟨⟨⟨⟨⟨?_, ?_⟩, ?_⟩, ?_⟩, ?_⟩, ?_⟩ <;> (rintro rfl; revert h1; decide)
theorem ok_ne {c : UInt8} (h : okB c = true) : c ≠ 10 ∧ c ≠ 35 := by
  constructor
  · rintro rfl; exact absurd h (by decide)
  · rintro rfl; exact absurd h (by decide)
theorem ok_sp {c : UInt8} (h : okB c = true) (hs : Lib.isSp c = false) : letterB c = true := by
  unfold okB at h
  rw [Bool.or_eq_true] at h
  rcases h with h | h
  · rw [beq_iff_eq] at h; subst h; exact absurd hs (by decide)
  · exact h
theorem letter_ok {c : UInt8} (h : letterB c = true) : okB c = true := by unfold okB; rw [h]; simp
/-! ### the fields of words -/
theorem fieldsGo_letters : ∀ (x l cur : List UInt8), x.all letterB = true → Lib.fieldsGo cur (x ++ l) = Lib.fieldsGo (cur ++ x) l
  | [], l, cur, _ => by simp
  | b :: x, l, cur, h => by
    simp only [List.all_cons, Bool.and_eq_true] at h
    rw [List.cons_append, Lib.fieldsGo_more _ _ _ (letter_sp h.1), fieldsGo_letters x l _ h.2]
    simp
theorem fieldsGo_join : ∀ (ws : List (List UInt8)) (w : List UInt8), fineW w → (∀ v ∈ ws, fineW v) → Lib.fieldsGo [] (w ++ ws.flatMap (fun v => 32 :: v)) = w :: ws
  | [], w, h, _ => by
    rw [fieldsGo_letters _ _ _ h.2.2]
    simp [Lib.fieldsGo, h.1]
  | v :: ws, w, h, hs => by
    rw [fieldsGo_letters _ _ _ h.2.2, List.nil_append, List.flatMap_cons, List.cons_append, Lib.fieldsGo_end w 32 _ (by decide) h.1, fieldsGo_join ws v (hs v (by simp)) (fun u hu => hs u (by simp [hu]))]
theorem fields_join {ws : List (List UInt8)} (h : ∀ w ∈ ws, fineW w) : Lib.fields (joinW ws) = ws := by
  cases ws with
  | nil => rfl
  | cons w ws => exact fieldsGo_join ws w (h w (by simp)) (fun v hv => h v (by simp [hv]))
theorem join_ok {ws : List (List UInt8)} (h : ∀ w ∈ ws, fineW w) : (joinW ws).all okB = true := by
  have one : ∀ w ∈ ws, ∀ c ∈ w, okB c = true := fun w hw c hc => letter_ok (List.all_eq_true.1 (h w hw).2.2 c hc)
  rw [List.all_eq_true]
  intro c hc
  cases ws with
  | nil => simp [joinW] at hc
  | cons w ws =>
    simp only [joinW, List.mem_append, List.mem_flatMap, List.mem_cons] at hc
    rcases hc with hc | ⟨v, hv, rfl | hc⟩
    · exact one w (by simp) c hc
    · rfl
    · exact one v (by simp [hv]) c hc
theorem words_of_join {ws : List (List UInt8)} (h : fineL ws) : wordsE (joinW ws) = none := by
  unfold wordsE
  rw [if_pos (join_ok h.2.2), fields_join h.2.2, if_neg, if_neg (by have := h.2.1; omega)]
  simp only [List.any_eq_true, not_exists, not_and]
  intro w hw hl
  have := (h.2.2 w hw).2.1
  unfold longB at hl
  have := of_decide_eq_true hl
  omega
theorem strip_ok {l : List UInt8} (h : l.all okB = true) : strip l = l := by
  unfold strip
  have e := List.takeWhile_append_of_pos (p := fun c : UInt8 => c != 35) (l₁ := l) (l₂ := []) (fun c hc => by simpa using (ok_ne (List.all_eq_true.1 h c hc)).2)
  simpa using e
theorem pieces_ahead (c : UInt8) : ∀ (p l : List UInt8), c ∉ p → pieces c (p ++ c :: l) = p :: pieces c l
  | [], l, _ => by rw [List.nil_append, pieces_hit (by simp)]
  | b :: p, l, h => by
    rw [List.cons_append, pieces_skip (by simp at h ⊢; exact fun e => h.1 e.symm) (pieces_ahead c p l (by simp at h; exact h.2))]
theorem join_ten {ws : List (List UInt8)} (h : ∀ w ∈ ws, fineW w) : (10 : UInt8) ∉ joinW ws := fun hc => (ok_ne (List.all_eq_true.1 (join_ok h) 10 hc)).1 rfl
theorem pieces_print : ∀ (ls : List (List (List UInt8))), (∀ ws ∈ ls, fineL ws) → pieces 10 (printL ls) = ls.map joinW ++ [[]]
  | [], _ => rfl
  | ws :: ls, h => by
    unfold printL
    rw [List.flatMap_cons, List.append_assoc, List.singleton_append, pieces_ahead _ _ _ (join_ten (h ws (by simp)).2.2)]
    have := pieces_print ls (fun v hv => h v (by simp [hv]))
    unfold printL at this
    rw [this]; rfl
/-- numbered on -/
def number {α : Type} : Nat → List α → List (Nat × α)
  | _, [] => []
  | n, x :: l => (n, x) :: number (n + 1) l
theorem number_len {α : Type} : ∀ (n : Nat) (l : List α), (number n l).length = l.length
  | _, [] => rfl
  | n, x :: l => by rw [number, List.length_cons, List.length_cons, number_len]
theorem number_get {α : Type} : ∀ (n : Nat) (l : List α) (i : Nat), (number n l)[i]? = l[i]?.map (fun x => (n + i, x))
  | _, [], i => by simp [number]
  | n, x :: l, 0 => by simp [number]
  | n, x :: l, i + 1 => by
    rw [number, List.getElem?_cons_succ, List.getElem?_cons_succ, number_get (n + 1) l i]
    congr 1; funext y; simp; omega
theorem number_snd {α : Type} : ∀ (n : Nat) (l : List α), (number n l).map (·.2) = l
  | _, [] => rfl
  | n, x :: l => by rw [number, List.map_cons, number_snd]
theorem items_number : ∀ (n : Nat) (ps : List (List UInt8)), items n ps = number n (ps.map strip)
  | _, [] => rfl
  | n, p :: ps => by rw [items, items_number, List.map_cons, number]
theorem items_append : ∀ (n : Nat) (ps qs : List (List UInt8)), items n (ps ++ qs) = items n ps ++ items (n + ps.length) qs
  | _, [], qs => by simp [items]
  | n, p :: ps, qs => by
    rw [List.cons_append, items, items_append, items, List.length_cons, List.cons_append]
    congr 3
    omega
theorem firstBad_none {l : List (Nat × List UInt8)} : firstBad l = none ↔ ∀ x ∈ l, wordsE x.2 = none := by
  unfold firstBad
  rw [List.findSome?_eq_none_iff]
  constructor
  · intro h x hx
    have := h x hx
    unfold badOf at this
    simpa using this
  · intro h x hx
    unfold badOf
    rw [h x hx]; rfl
theorem items_print (n : Nat) (ls : List (List (List UInt8))) (h : ∀ ws ∈ ls, fineL ws) : firstBad (items n (ls.map joinW ++ [[]])) = none ∧ gather (items n (ls.map joinW ++ [[]])) = number n ls := by
  induction ls generalizing n with
  | nil => exact ⟨rfl, rfl⟩
  | cons ws ls ih =>
    obtain ⟨h1, h2⟩ := ih (n + 1) (fun v hv => h v (by simp [hv]))
    have hw := h ws (by simp)
    have hs := strip_ok (join_ok hw.2.2)
    rw [List.map_cons, List.cons_append, items]
    constructor
    · rw [firstBad_none] at h1 ⊢
      intro x hx
      rcases List.mem_cons.1 hx with rfl | hx
      · simp only; rw [hs]; exact words_of_join hw
      · exact h1 x hx
    · unfold gather at h2 ⊢
      rw [List.flatMap_cons, h2, hs, lineOf_some (by simp only; rw [fields_join hw.2.2]; exact hw.1)]
      simp only [number]
      rw [fields_join hw.2.2]; rfl
theorem text_print {ls : List (List (List UInt8))} (h : ∀ ws ∈ ls, fineL ws) : textE (printL ls) = (if 4096 < (printL ls).length then some (2, 0) else none) ∧ textL (printL ls) = number 1 ls := by
  obtain ⟨h1, h2⟩ := items_print 1 ls h
  unfold textE textL itemsOf
  rw [pieces_print ls h]
  exact ⟨by rw [h1], h2⟩
/-! ### what lines are told -/
theorem fieldsGo_fine : ∀ (l cur : List UInt8), l.all okB = true → cur.all letterB = true → ∀ w ∈ Lib.fieldsGo cur l, w ≠ [] ∧ w.all letterB = true
  | [], cur, _, hc, w, hw => by
    unfold Lib.fieldsGo at hw
    split at hw
    · cases hw
    · rename_i hn
      simp only [List.mem_singleton] at hw
      subst hw
      exact ⟨by intro e; subst e; exact hn rfl, hc⟩
  | b :: l, cur, h, hc, w, hw => by
    simp only [List.all_cons, Bool.and_eq_true] at h
    unfold Lib.fieldsGo at hw
    split at hw
    · split at hw
      · exact fieldsGo_fine l [] h.2 rfl w hw
      · rename_i hn
        rcases List.mem_cons.1 hw with rfl | hw
        · exact ⟨by intro e; subst e; exact hn rfl, hc⟩
        · exact fieldsGo_fine l [] h.2 rfl w hw
    · rename_i hn
      exact fieldsGo_fine l (cur ++ [b]) h.2 (by rw [List.all_append, hc]; simp [ok_sp h.1 (by simpa using hn)]) w hw
theorem fields_fine {l : List UInt8} (h : wordsE l = none) (hne : ¬ Lib.fields l = []) : fineL (Lib.fields l) := by
  obtain ⟨h1, h2, h3⟩ := wordsE_none h
  refine ⟨hne, h1, fun w hw => ?_⟩
  obtain ⟨a, b⟩ := fieldsGo_fine l [] h2 rfl w hw
  refine ⟨a, ?_, b⟩
  rw [List.any_eq_false] at h3
  have := h3 w hw
  unfold longB at this
  simp only [decide_eq_true_eq] at this
  omega
theorem mem_gather {l : List (Nat × List UInt8)} {x : Nat × List (List UInt8)} (hx : x ∈ gather l) : ∃ y ∈ l, x = (y.1, Lib.fields y.2) ∧ ¬ Lib.fields y.2 = [] := by
  unfold gather at hx
  obtain ⟨y, hy, h⟩ := List.mem_flatMap.1 hx
  refine ⟨y, hy, ?_⟩
  by_cases he : Lib.fields y.2 = []
  · rw [lineOf_none he] at h; cases h
  · rw [lineOf_some he] at h
    simp only [List.mem_singleton] at h
    exact ⟨h, he⟩
theorem textL_fine {l : List UInt8} (h : firstBad (itemsOf l) = none) : ∀ x ∈ textL l, fineL x.2 := by
  intro x hx
  obtain ⟨y, hy, rfl, hne⟩ := mem_gather hx
  exact fields_fine (firstBad_none.1 h y hy) hne
theorem textE_none {l : List UInt8} (h : textE l = none) : l.length ≤ 4096 ∧ firstBad (itemsOf l) = none := by
  unfold textE at h
  split at h
  · cases h
  · exact ⟨by omega, h⟩
/-- how many ends a text has -/
def ends (l : List UInt8) : Nat := l.count 10
theorem pieces_len (l : List UInt8) : (pieces 10 l).length = ends l + 1 := by
  unfold ends
  induction l with
  | nil => rfl
  | cons b l ih =>
    by_cases hb : (b == 10) = true
    · rw [pieces_hit hb, List.length_cons, ih, List.count_cons, if_pos hb]
    · obtain ⟨p, ps, e⟩ : ∃ p ps, pieces 10 l = p :: ps := by
        cases e : pieces 10 l with
        | nil => exact absurd e (pieces_ne 10 l)
        | cons p ps => exact ⟨p, ps, rfl⟩
      rw [pieces_skip hb e, List.count_cons, if_neg hb]
      rw [e] at ih
      simpa using ih
theorem items_bound : ∀ (n : Nat) (ps : List (List UInt8)), ∀ x ∈ items n ps, n ≤ x.1 ∧ x.1 < n + ps.length
  | _, [], x, hx => by cases hx
  | n, p :: ps, x, hx => by
    rw [items] at hx
    rcases List.mem_cons.1 hx with rfl | hx
    · simp
    · have := items_bound (n + 1) ps x hx
      simp; omega
theorem items_rise : ∀ (n : Nat) (ps : List (List UInt8)), (items n ps).Pairwise (fun a b => a.1 < b.1)
  | _, [] => List.Pairwise.nil
  | n, p :: ps => by
    rw [items]
    refine List.Pairwise.cons (fun x hx => ?_) (items_rise (n + 1) ps)
    have := items_bound (n + 1) ps x hx
    simp only; omega
theorem gather_rise {l : List (Nat × List UInt8)} (h : l.Pairwise (fun a b => a.1 < b.1)) : (gather l).Pairwise (fun a b => a.1 < b.1) := by
  induction l with
  | nil => exact List.Pairwise.nil
  | cons y l ih =>
    obtain ⟨h1, h2⟩ := List.pairwise_cons.1 h
    have hg : gather (y :: l) = lineOf y ++ gather l := by unfold gather; rw [List.flatMap_cons]
    rw [hg]
    by_cases he : Lib.fields y.2 = []
    · rw [lineOf_none he, List.nil_append]; exact ih h2
    · rw [lineOf_some he, List.singleton_append]
      refine List.Pairwise.cons (fun x hx => ?_) (ih h2)
      obtain ⟨z, hz, rfl, -⟩ := mem_gather hx
      exact h1 z hz
theorem textL_numbers (l : List UInt8) : (textL l).Pairwise (fun a b => a.1 < b.1) ∧ ∀ x ∈ textL l, 1 ≤ x.1 ∧ x.1 ≤ ends l + 1 := by
  refine ⟨gather_rise (items_rise 1 _), fun x hx => ?_⟩
  obtain ⟨y, hy, rfl, -⟩ := mem_gather hx
  have := items_bound 1 _ y hy
  rw [pieces_len] at this
  simp only; omega
theorem wordsE_some {l : List UInt8} {k : Int} (h : wordsE l = some k) : k = 71 ∨ k = 72 ∨ k = 2 := by
  unfold wordsE at h
  split at h
  · split at h
    · simp at h; omega
    · split at h
      · simp at h; omega
      · cases h
  · simp at h; omega
theorem firstBad_some {l : List (Nat × List UInt8)} {k no : Int} (h : firstBad l = some (k, no)) : (k = 71 ∨ k = 72 ∨ k = 2) ∧ ∃ x ∈ l, no = (x.1 : Int) := by
  unfold firstBad at h
  obtain ⟨x, hx, hb⟩ := List.exists_of_findSome?_eq_some h
  unfold badOf at hb
  rw [Option.map_eq_some_iff] at hb
  obtain ⟨k', hk, e⟩ := hb
  simp only [Prod.mk.injEq] at e
  obtain ⟨rfl, rfl⟩ := e
  exact ⟨wordsE_some hk, x, hx, rfl⟩
theorem textE_some {l : List UInt8} {k no : Int} (h : textE l = some (k, no)) : (k = 71 ∨ k = 72 ∨ k = 2) ∧ 0 ≤ no ∧ no ≤ ends l + 1 := by
  unfold textE at h
  split at h
  · simp only [Option.some.injEq, Prod.mk.injEq] at h
    omega
  · obtain ⟨h1, x, hx, rfl⟩ := firstBad_some h
    have := items_bound 1 _ x hx
    rw [pieces_len] at this
    exact ⟨h1, by omega, by omega⟩
/-! ### two texts, one below the other -/
theorem pieces_below (t : List UInt8) : ∀ s : List UInt8, pieces 10 (s ++ 10 :: t) = pieces 10 s ++ pieces 10 t
  | [] => by rw [List.nil_append, pieces_hit (by decide)]; rfl
  | b :: s => by
    have ih := pieces_below t s
    by_cases hb : (b == 10) = true
    · rw [List.cons_append, pieces_hit hb, pieces_hit hb, ih]; rfl
    · obtain ⟨p, ps, e⟩ : ∃ p ps, pieces 10 s = p :: ps := by
        cases e : pieces 10 s with
        | nil => exact absurd e (pieces_ne 10 s)
        | cons p ps => exact ⟨p, ps, rfl⟩
      rw [e] at ih
      rw [List.cons_append, pieces_skip hb ih, pieces_skip hb e]; rfl
def onward {α : Type} (k : Nat) (x : Nat × α) : Nat × α := (x.1 + k, x.2)
theorem items_shift (k : Nat) : ∀ (n : Nat) (ps : List (List UInt8)), items (n + k) ps = (items n ps).map (onward k)
  | _, [] => rfl
  | n, p :: ps => by
    rw [items, items, List.map_cons, ← items_shift k (n + 1) ps]
    rw [show n + k + 1 = n + 1 + k by omega]; rfl
theorem items_below (s t : List UInt8) : itemsOf (s ++ 10 :: t) = itemsOf s ++ (itemsOf t).map (onward (ends s + 1)) := by
  unfold itemsOf
  rw [pieces_below, items_append, pieces_len, ← items_shift]
theorem gather_append (a b : List (Nat × List UInt8)) : gather (a ++ b) = gather a ++ gather b := by unfold gather; rw [List.flatMap_append]
theorem gather_shift (k : Nat) (l : List (Nat × List UInt8)) : gather (l.map (onward k)) = (gather l).map (onward k) := by
  unfold gather
  rw [List.flatMap_map, List.map_flatMap]
  congr 1
  funext x
  unfold lineOf onward
  split <;> simp
theorem firstBad_shift (k : Nat) (l : List (Nat × List UInt8)) : firstBad (l.map (onward k)) = (firstBad l).map (fun x => (x.1, x.2 + (k : Int))) := by
  induction l with
  | nil => rfl
  | cons x l ih =>
    unfold firstBad at ih ⊢
    rw [List.map_cons, List.findSome?_cons, List.findSome?_cons]
    unfold badOf onward at *
    simp only
    cases wordsE x.2 with
    | none => simpa using ih
    | some j => simp
theorem firstBad_append (a b : List (Nat × List UInt8)) : firstBad (a ++ b) = (firstBad a).or (firstBad b) := by
  unfold firstBad; rw [List.findSome?_append]
/-! ### blanks and remarks -/
/-- lines of the same words -/
def Alike (p q : List UInt8) : Prop := wordsE (strip p) = wordsE (strip q) ∧ Lib.fields (strip p) = Lib.fields (strip q)
theorem Alike.refl (p : List UInt8) : Alike p p := ⟨rfl, rfl⟩
theorem Alike.trans {p q r : List UInt8} (h : Alike p q) (h' : Alike q r) : Alike p r := ⟨h.1.trans h'.1, h.2.trans h'.2⟩
inductive AllAlike : List (List UInt8) → List (List UInt8) → Prop
  | nil : AllAlike [] []
  | cons {p q : List UInt8} {ps qs : List (List UInt8)} (h : Alike p q) (t : AllAlike ps qs) : AllAlike (p :: ps) (q :: qs)
theorem AllAlike.refl : ∀ ps : List (List UInt8), AllAlike ps ps
  | [] => .nil
  | p :: ps => .cons (Alike.refl p) (AllAlike.refl ps)
theorem AllAlike.trans {a b c : List (List UInt8)} (h : AllAlike a b) (h' : AllAlike b c) : AllAlike a c := by
  induction h generalizing c with
  | nil => exact h'
  | cons h t ih =>
    cases h' with
    | cons h2 t2 => exact .cons (h.trans h2) (ih t2)
theorem AllAlike.items {a b : List (List UInt8)} (h : AllAlike a b) (n : Nat) : firstBad (items n a) = firstBad (items n b) ∧ gather (items n a) = gather (items n b) := by
  induction h generalizing n with
  | nil => exact ⟨rfl, rfl⟩
  | @cons p q ps qs h t ih =>
    obtain ⟨h1, h2⟩ := ih (n + 1)
    constructor
    · unfold firstBad at h1 ⊢
      rw [Proofs.YtpoihpehdlogbaaDoor.items, Proofs.YtpoihpehdlogbaaDoor.items, List.findSome?_cons, List.findSome?_cons, h1]
      unfold badOf
      simp only
      rw [h.1]
    · unfold gather at h2 ⊢
      rw [Proofs.YtpoihpehdlogbaaDoor.items, Proofs.YtpoihpehdlogbaaDoor.items, List.flatMap_cons, List.flatMap_cons, h2]
      unfold lineOf
      simp only
      rw [h.2]
theorem fieldsGo_ahead (n : Nat) (l : List UInt8) : Lib.fieldsGo [] (List.replicate n 32 ++ l) = Lib.fieldsGo [] l := by
  induction n with
  | zero => rfl
  | succ n ih => rw [List.replicate_succ, List.cons_append, Lib.fieldsGo_sp _ _ (by decide), ih]
theorem fieldsGo_behind (n : Nat) : ∀ (l cur : List UInt8), Lib.fieldsGo cur (l ++ List.replicate n 32) = Lib.fieldsGo cur l
  | [], cur => by
    rw [List.nil_append]
    cases n with
    | zero => rfl
    | succ n =>
      rw [List.replicate_succ]
      have := fieldsGo_ahead n []
      rw [List.append_nil] at this
      by_cases hc : cur = []
      · subst hc; rw [Lib.fieldsGo_sp _ _ (by decide), this]
      · rw [Lib.fieldsGo_end _ _ _ (by decide) hc, this]
        simp [Lib.fieldsGo, hc]
  | b :: l, cur => by
    have ih := fun c => fieldsGo_behind n l c
    rw [List.cons_append]
    unfold Lib.fieldsGo
    rw [ih, ih]
theorem blanks_ok (n : Nat) : (List.replicate n (32 : UInt8)).all okB = true := by
  rw [List.all_eq_true]
  intro c hc
  rw [List.eq_of_mem_replicate hc]; rfl
theorem wordsE_of {a b : List UInt8} (h1 : a.all okB = b.all okB) (h2 : Lib.fields a = Lib.fields b) : wordsE a = wordsE b := by
  unfold wordsE; rw [h1, h2]
theorem alike_ahead (n : Nat) (p : List UInt8) : Alike (List.replicate n 32 ++ p) p := by
  have e : strip (List.replicate n 32 ++ p) = List.replicate n 32 ++ strip p := by
    unfold strip
    rw [List.takeWhile_append_of_pos]
    intro c hc
    rw [List.eq_of_mem_replicate hc]; rfl
  have e2 : Lib.fields (List.replicate n 32 ++ strip p) = Lib.fields (strip p) := fieldsGo_ahead n _
  unfold Alike
  rw [e]
  exact ⟨wordsE_of (by rw [List.all_append, blanks_ok]; rfl) e2, e2⟩
theorem strip_behind (n : Nat) (r : List UInt8) : ∀ p : List UInt8, strip (p ++ (List.replicate n 32 ++ 35 :: r)) = strip p ∨ strip (p ++ (List.replicate n 32 ++ 35 :: r)) = strip p ++ List.replicate n 32
  | [] => by
    right
    unfold strip
    rw [List.nil_append, List.takeWhile_append_of_pos (fun c hc => by rw [List.eq_of_mem_replicate hc]; rfl)]
    simp
  | b :: p => by
    unfold strip
    rw [List.cons_append, List.takeWhile_cons, List.takeWhile_cons]
    by_cases hb : (b != 35) = true
    · rw [if_pos hb, if_pos hb]
      rcases strip_behind n r p with h | h
      · left; unfold strip at h; rw [h]
      · right; unfold strip at h; rw [h]; rfl
    · left; rw [if_neg hb, if_neg hb]
theorem alike_behind (n : Nat) (r p : List UInt8) : Alike (p ++ (List.replicate n 32 ++ 35 :: r)) p := by
  unfold Alike
  rcases strip_behind n r p with h | h
  · rw [h]; exact ⟨rfl, rfl⟩
  · have e2 : Lib.fields (strip p ++ List.replicate n 32) = Lib.fields (strip p) := fieldsGo_behind n _ _
    rw [h]
    exact ⟨wordsE_of (by rw [List.all_append, blanks_ok, Bool.and_true]) e2, e2⟩
theorem pieces_blanks (n : Nat) (s : List UInt8) : AllAlike (pieces 10 (List.replicate n 32 ++ s)) (pieces 10 s) := by
  induction n with
  | zero => exact AllAlike.refl _
  | succ n ih =>
    refine AllAlike.trans ?_ ih
    obtain ⟨p, ps, e⟩ : ∃ p ps, pieces 10 (List.replicate n 32 ++ s) = p :: ps := by
      cases e : pieces 10 (List.replicate n 32 ++ s) with
      | nil => exact absurd e (pieces_ne 10 _)
      | cons p ps => exact ⟨p, ps, rfl⟩
    rw [List.replicate_succ, List.cons_append, pieces_skip (by decide) e, e]
    exact .cons (alike_ahead 1 p) (AllAlike.refl _)
theorem pieces_none {l : List UInt8} (h : (10 : UInt8) ∉ l) : pieces 10 l = [l] := by
  induction l with
  | nil => rfl
  | cons b l ih =>
    simp only [List.mem_cons, not_or] at h
    rw [pieces_skip (by simp; exact fun e => h.1 e.symm) (ih h.2)]
theorem pieces_last (u : List UInt8) (hu : (10 : UInt8) ∉ u) : ∀ s : List UInt8, ∃ ps p, pieces 10 s = ps ++ [p] ∧ pieces 10 (s ++ u) = ps ++ [p ++ u]
  | [] => ⟨[], [], rfl, by rw [List.nil_append, pieces_none hu]; rfl⟩
  | b :: s => by
    obtain ⟨ps, p, h1, h2⟩ := pieces_last u hu s
    rw [List.cons_append]
    by_cases hb : (b == 10) = true
    · exact ⟨[] :: ps, p, by rw [pieces_hit hb, h1]; rfl, by rw [pieces_hit hb, h2]; rfl⟩
    · cases ps with
      | nil => exact ⟨[], b :: p, pieces_skip hb h1, pieces_skip hb h2⟩
      | cons q ps => exact ⟨(b :: q) :: ps, p, pieces_skip hb h1, pieces_skip hb h2⟩
theorem alike_last {p q : List UInt8} (h : Alike p q) : ∀ ps : List (List UInt8), AllAlike (ps ++ [p]) (ps ++ [q])
  | [] => .cons h .nil
  | x :: ps => .cons (Alike.refl x) (alike_last h ps)
theorem pieces_behind (n : Nat) (r : List UInt8) (hr : (10 : UInt8) ∉ r) (s : List UInt8) : AllAlike (pieces 10 (s ++ (List.replicate n 32 ++ 35 :: r))) (pieces 10 s) := by
  obtain ⟨ps, p, h1, h2⟩ := pieces_last (List.replicate n 32 ++ 35 :: r) (by
    simp only [List.mem_append, List.mem_cons, not_or]
    exact ⟨fun h => absurd (List.eq_of_mem_replicate h) (by decide), by decide, hr⟩) s
  rw [h1, h2]
  exact alike_last (alike_behind n r p) ps
/-- blanks ahead of a text and behind it, and a remark behind it, change nothing -/
theorem text_blanks (n : Nat) (s r : List UInt8) (hr : (10 : UInt8) ∉ r) : firstBad (itemsOf (List.replicate n 32 ++ (s ++ (List.replicate n 32 ++ 35 :: r)))) = firstBad (itemsOf s) ∧ textL (List.replicate n 32 ++ (s ++ (List.replicate n 32 ++ 35 :: r))) = textL s := by
  unfold textL itemsOf
  exact ((pieces_blanks n _).trans (pieces_behind n r hr s)).items 1
end Go.Proofs.YtpoihpehdlogbaaDoor
