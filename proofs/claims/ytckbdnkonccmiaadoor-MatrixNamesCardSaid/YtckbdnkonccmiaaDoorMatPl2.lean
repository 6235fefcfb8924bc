/-
  A text with lines without words, blanks and remarks between: it has the same lines.
  Matrices that are not right: a name twice, a place that is not there, more votes than points, a device twice.
-/
import Derived.Test.YtckbdnkonccmiaaDoorMatThy
namespace Go.Proofs.YtckbdnkonccmiaaDoor
open Go.RowKit
def remark1 (ws : List (List UInt8)) : List UInt8 := [10, 32] ++ printL [ws] ++ [35] ++ printL [ws]
def remarked (ls : List (List (List UInt8))) : List UInt8 := ls.flatMap remark1
theorem print_one (ws : List (List UInt8)) : printL [ws] = joinW ws ++ [10] := by unfold printL; simp
theorem remark1_eq (ws : List (List UInt8)) (l : List UInt8) : remark1 ws ++ l = [] ++ 10 :: ((32 :: joinW ws) ++ 10 :: ((35 :: joinW ws) ++ 10 :: l)) := by
  unfold remark1
  rw [print_one]
  simp
theorem remarked_next {m : Mat} {j : Nat} {ws : List ByteArray} (h : (linesOf m)[j]? = some ws) : remarked ((bytesL (linesOf m)).take (j + 1)) = remarked ((bytesL (linesOf m)).take j) ++ ([10, 32] ++ printL (bytesL [ws]) ++ [35] ++ printL (bytesL [ws])) := by
  have hb : (bytesL (linesOf m))[j]? = some (ws.map (fun s => s.data.toList)) := by unfold bytesL; rw [List.getElem?_map, h]; rfl
  rw [List.take_add_one, hb]
  unfold remarked
  rw [List.flatMap_append]
  congr 1
  simp [remark1, bytesL]
theorem remarked_len (ls : List (List (List UInt8))) (j : Nat) : (remarked (ls.take j)).length ≤ 2 * (printL ls).length + 3 * ls.length := by
  have key : ∀ l : List (List (List UInt8)), (remarked l).length = 2 * (printL l).length + 3 * l.length := by
    intro l
    induction l with
    | nil => rfl
    | cons ws l ih =>
      unfold remarked printL at *
      rw [List.flatMap_cons, List.flatMap_cons, List.length_append, List.length_append, ih, List.length_cons]
      unfold remark1
      rw [print_one]
      simp only [List.length_append, List.length_cons, List.length_nil]
      omega
  rw [key]
  have h1 : (printL (ls.take j)).length ≤ (printL ls).length := by
    have h := congrArg (fun l => (printL l).length) (List.take_append_drop j ls)
    simp only [printL_append, List.length_append] at h
    omega
  have h2 : (ls.take j).length ≤ ls.length := by simp; omega
  omega
theorem pieces_remarked : ∀ ls : List (List (List UInt8)), (∀ ws ∈ ls, fineL ws) → pieces 10 (remarked ls) = ls.flatMap (fun ws => [[], 32 :: joinW ws, 35 :: joinW ws]) ++ [[]]
  | [], _ => rfl
  | ws :: ls, h => by
    have hj : (10 : UInt8) ∉ joinW ws := join_ten (h ws (by simp)).2.2
    have e : remarked (ws :: ls) = remark1 ws ++ remarked ls := by unfold remarked; rw [List.flatMap_cons]
    rw [e, remark1_eq, pieces_ahead 10 [] _ (by simp), pieces_ahead 10 (32 :: joinW ws) _ (by simp; exact hj), pieces_ahead 10 (35 :: joinW ws) _ (by simp; exact hj), pieces_remarked ls (fun v hv => h v (by simp [hv])), List.flatMap_cons]
    rfl
theorem lead_fields (l : List UInt8) : Lib.fields (32 :: l) = Lib.fields l := by
  have := fieldsGo_ahead 1 l
  exact this
theorem read_remarked : ∀ (ls : List (List (List UInt8))) (n : Nat), (∀ ws ∈ ls, fineL ws) → firstBad (items n (ls.flatMap (fun ws => [[], 32 :: joinW ws, 35 :: joinW ws]) ++ [[]])) = none ∧ (gather (items n (ls.flatMap (fun ws => [[], 32 :: joinW ws, 35 :: joinW ws]) ++ [[]]))).map (·.2) = ls
  | [], n, _ => ⟨rfl, rfl⟩
  | ws :: ls, n, h => by
    have hf := h ws (by simp)
    have hok : (32 :: joinW ws).all okB = true := by rw [List.all_cons, join_ok hf.2.2]; rfl
    have hw : wordsE (32 :: joinW ws) = none := by rw [wordsE_of (b := joinW ws) (by rw [hok, join_ok hf.2.2]) (lead_fields _)]; exact words_of_join hf
    have hfi : Lib.fields (32 :: joinW ws) = ws := by rw [lead_fields, fields_join hf.2.2]
    obtain ⟨r1, r2⟩ := read_remarked ls (n + 1 + 1 + 1) (fun v hv => h v (by simp [hv]))
    have e : items n ((ws :: ls).flatMap (fun ws => [[], 32 :: joinW ws, 35 :: joinW ws]) ++ [[]]) = (n, []) :: (n + 1, 32 :: joinW ws) :: (n + 1 + 1, []) :: items (n + 1 + 1 + 1) (ls.flatMap (fun ws => [[], 32 :: joinW ws, 35 :: joinW ws]) ++ [[]]) := by
      rw [List.flatMap_cons]
      show items n ([] :: (32 :: joinW ws) :: (35 :: joinW ws) :: (ls.flatMap _ ++ [[]])) = _
      rw [items, items, items]
      rw [strip_ok hok]
      rfl
    rw [e]
    constructor
    · rw [firstBad_none]
      intro x hx
      simp only [List.mem_cons] at hx
      rcases hx with rfl | rfl | rfl | hx
      · rfl
      · exact hw
      · rfl
      · exact (firstBad_none.1 r1) x hx
    · have g0 : ∀ (k : Nat), lineOf (k, ([] : List UInt8)) = [] := fun k => rfl
      unfold gather at r2 ⊢
      rw [List.flatMap_cons, List.flatMap_cons, List.flatMap_cons, g0, g0]
      have g1 : lineOf (n + 1, 32 :: joinW ws) = [(n + 1, ws)] := by
        unfold lineOf
        simp only
        rw [hfi, if_neg hf.1]
      rw [g1, List.nil_append, List.nil_append, List.map_append, r2]
      rfl
theorem parse_remarked {m : Mat} (h : RightP m) : (remarked (bytesL (linesOf m))).length ≤ 4096 → parseO (remarked (bytesL (linesOf m))) = (m.bare, 0, 0) := by
  intro hl
  obtain ⟨kn, hr, -⟩ := run_whole h
  obtain ⟨h1, h2⟩ := read_remarked (bytesL (linesOf m)) 1 (lines_fine h)
  rw [← pieces_remarked _ (lines_fine h)] at h1 h2
  have hE : textE (remarked (bytesL (linesOf m))) = none := by
    unfold textE
    rw [if_neg (by omega)]
    exact h1
  rw [parse_ok hE h2 hr, if_pos ⟨rfl, rfl⟩]
/-- the first lines of a right matrix -/
theorem parse_firsts {m : Mat} (h : RightP m) (k : Nat) (hl : (printL (bytesL ((linesOf m).take k))).length ≤ 4096) : (parseO (printL (bytesL ((linesOf m).take k)))).2 = if k < 2 then (81, 0) else (0, 0) := by
  obtain ⟨q, hq, hw⟩ := run_first_lines h k
  have hf : FineLs ((linesOf m).take k) := (lines_fine h).sub (fun x hx => List.mem_of_mem_take hx)
  rw [parse_print hf hq hl]
  by_cases h2 : k < 2
  · rw [if_pos h2, if_neg (fun e => by have := hw.1 e; omega)]
  · rw [if_neg h2, if_pos (hw.2 (by omega))]
end Go.Proofs.YtckbdnkonccmiaaDoor
namespace Go.Proofs.YtckbdnkonccmiaaDoor
open Go.RowKit
theorem set_at {α : Type} {l : List α} {K : Nat} {c c' : α} (hc : l[K]? = some c) : (l.set K c')[K]? = some c' := by
  rw [List.getElem?_set_self (List.getElem?_eq_some_iff.1 hc).1]
theorem names_votes {m : Mat} {K : Nat} {c : Cs} (hc : m.css[K]? = some c) : ¬ RightP { m with css := m.css.set K { c with votes := (c.pts.length : Int) + 1 } } := by
  intro hr
  have h := (hr.2.2.2.2.1.2 K _ (set_at (c' := { c with votes := (c.pts.length : Int) + 1 }) hc)).2.1.2
  simp only at h
  omega
theorem names_point {m : Mat} {K : Nat} {c : Cs} {v : Value} (hc : m.css[K]? = some c) : ¬ RightP { m with css := m.css.set K { c with v := v, pts := [(m.pts.length : Int)] } } := by
  intro hr
  have h := ((hr.2.2.2.2.1.2 K _ (set_at (c' := { c with v := v, pts := [(m.pts.length : Int)] }) hc)).1.2.2 0 (m.pts.length : Int) rfl).1.2
  simp only at h
  omega
theorem names_name {m : Mat} {K : Nat} {c : Cs} {p : Pt} (hc : m.css[K]? = some c) (hp : m.pts[0]? = some p) : ¬ RightP { m with css := m.css.set K { c with name := p.name } } := by
  intro hr
  have h := (names_once hr.2.2.2.2.2.2).1
  unfold Mat.names at h
  rw [List.append_assoc, List.nodup_append] at h
  refine h.2.2 p.name (List.mem_append.2 (.inr (List.mem_map.2 ⟨p, List.mem_of_getElem? hp, rfl⟩))) p.name (List.mem_append.2 (.inl (List.mem_map.2 ⟨{ c with name := p.name }, List.mem_of_getElem? (set_at hc), rfl⟩))) rfl
theorem names_dev {m : Mat} {d : Dev} {s : ByteArray} (hd : m.devs[0]? = some d) : ¬ RightP { m with devs := m.devs ++ [⟨s, d.line, d.unit⟩] } := by
  intro hr
  have h := (all_last hr.2.2.1.2).2.2
  exact h 0 d (List.getElem?_eq_some_iff.1 hd).1 (by rw [List.getElem?_append_left (List.getElem?_eq_some_iff.1 hd).1]; exact hd) ⟨rfl, rfl⟩
theorem some_there {m : Mat} (h : RightP m) (hc : 0 < m.css.length) : (∃ p, m.pts[0]? = some p) ∧ ∃ d, m.devs[0]? = some d := by
  have h1 := (h.2.2.2.2.1.2 0 m.css[0] (List.getElem?_eq_getElem hc)).1
  have h2 := h1.1
  have h3 := someP_range h1 (m.css[0].pts[0]'(by omega)) (List.getElem_mem _)
  have hp : 0 < m.pts.length := by omega
  have h4 := (h.2.2.2.1.2 0 m.pts[0] (List.getElem?_eq_getElem hp)).1
  have hd : 0 < m.devs.length := by omega
  exact ⟨⟨_, List.getElem?_eq_getElem hp⟩, ⟨_, List.getElem?_eq_getElem hd⟩⟩
theorem flat_set {c c' : Cs} {u : Value} {d : Nat} (hd : d < 5) (he : c'.cells = c.cells.set d u) : ∀ (cs : List Cs) (K : Nat), cs[K]? = some c → (cs.flatMap Cs.cells).set (K * 5 + d) u = (cs.set K c').flatMap Cs.cells
  | [], K, h => by simp at h
  | x :: cs, 0, h => by
    injection h with h
    subst h
    rw [List.flatMap_cons, List.set_cons_zero, List.flatMap_cons, he, Nat.zero_mul, Nat.zero_add, List.set_append_left _ _ (by rw [Cs.cells_len]; exact hd)]
  | x :: cs, K + 1, h => by
    rw [List.getElem?_cons_succ] at h
    rw [List.flatMap_cons, List.set_cons_succ, List.flatMap_cons, ← flat_set hd he cs K h, List.set_append_right _ _ (by rw [Cs.cells_len]; omega), Cs.cells_len]
    congr 2
    omega
theorem mat_set {W : World} {m : Mat} {vd vp vc ve vc' : Value} (h : MatAt W m vd vp vc ve) {K : Nat} {c' : Cs} (hn : NumsAt W c'.pts c'.v) (ho : LawFrame.RowsAt W 5 Cs.cells (m.css.set K c') vc') : MatAt W { m with css := m.css.set K c' } vd vp vc' ve := by
  refine ⟨h.1, h.2.1, ⟨ho, fun x hx => ?_⟩, h.2.2.2⟩
  rcases List.mem_or_eq_of_mem_set hx with hx | rfl
  · exact h.2.2.1.2 x hx
  · exact hn
theorem small_set {m : Mat} {n K : Nat} {c' : Cs} (h : SmallM m n) (hc : c'.name.size ≤ 1000000 ∧ c'.pts.length ≤ 100000) : SmallM { m with css := m.css.set K c' } n := by
  refine ⟨h.key, h.ds, h.ps, fun x hx => ?_, h.es, by have := h.len; simpa using this⟩
  rcases List.mem_or_eq_of_mem_set hx with hx | rfl
  · exact h.cs x hx
  · exact hc
end Go.Proofs.YtckbdnkonccmiaaDoor
