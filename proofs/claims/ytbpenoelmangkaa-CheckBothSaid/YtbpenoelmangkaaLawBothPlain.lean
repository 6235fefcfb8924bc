/-
  Counting twice: of those that are picked for each number together there are as many as are named.
-/
import Derived.Test.YtbpenoelmangkaaLawMorePlain
namespace Go.Proofs.Ytbpenoelmangkaa
open Go.RowKit
theorem idsUpto_count {α : Type} (p : α → Bool) (l : List α) : ∀ k, (idsUpto p l k).length = (l.take k).countP p
  | 0 => rfl
  | k + 1 => by
    rcases Nat.lt_or_ge k l.length with h | h
    · have hx : l[k]? = some l[k] := List.getElem?_eq_getElem h
      rw [List.take_add_one, hx, Option.toList_some, List.countP_append, ← idsUpto_count p l k]
      cases hp : p l[k] with
      | true => rw [idsUpto_yes hx hp]; simp [hp]
      | false => rw [idsUpto_no hx hp]; simp [hp]
    · have hx : l[k]? = none := List.getElem?_eq_none h
      rw [List.take_add_one, hx, Option.toList_none, List.append_nil, ← idsUpto_count p l k]
      unfold idsUpto
      rw [List.range_succ, List.filter_append, List.map_append]
      simp [List.filter, soAt, hx]
theorem ids_count {α : Type} (p : α → Bool) (l : List α) : (ids p l).length = l.countP p := by
  unfold ids
  rw [idsUpto_count, List.take_length]
def sumTo (f : Nat → Nat) : Nat → Nat
  | 0 => 0
  | n + 1 => sumTo f n + f n
theorem sumTo_add (f g : Nat → Nat) : ∀ n, sumTo (fun c => f c + g c) n = sumTo f n + sumTo g n
  | 0 => rfl
  | n + 1 => by simp only [sumTo, sumTo_add f g n]; omega
theorem sumTo_congr {f g : Nat → Nat} : ∀ {n}, (∀ c, c < n → f c = g c) → sumTo f n = sumTo g n
  | 0, _ => rfl
  | n + 1, h => by simp only [sumTo]; rw [sumTo_congr (fun c hc => h c (by omega)), h n (by omega)]
theorem sumTo_zero : ∀ n, sumTo (fun _ => 0) n = 0
  | 0 => rfl
  | n + 1 => by simp [sumTo, sumTo_zero n]
theorem sumTo_one (x : Int) (h0 : 0 ≤ x) : ∀ n, sumTo (fun c => if x = (c : Int) then 1 else 0) n = if x < (n : Int) then 1 else 0
  | 0 => by simp [sumTo]; omega
  | n + 1 => by
    simp only [sumTo, sumTo_one x h0 n]
    split <;> split <;> split <;> omega
theorem sumTo_mem : ∀ (xs : List Int) (n : Nat), xs.Nodup → (∀ x ∈ xs, 0 ≤ x ∧ x < (n : Int)) → sumTo (fun c => if (c : Int) ∈ xs then 1 else 0) n = xs.length
  | [], n, _, _ => by simp [sumTo_zero]
  | x :: xs, n, hn, hb => by
    obtain ⟨hx, hn⟩ := List.nodup_cons.1 hn
    have h1 := sumTo_mem xs n hn (fun y hy => hb y (by simp [hy]))
    have h2 : sumTo (fun c => if (c : Int) ∈ x :: xs then 1 else 0) n = sumTo (fun c => (if x = (c : Int) then 1 else 0) + (if (c : Int) ∈ xs then 1 else 0)) n := sumTo_congr (fun c _ => by
      by_cases e : x = (c : Int)
      · subst e; simp [hx]
      · by_cases e2 : (c : Int) ∈ xs
        · simp [e, e2]
        · have : ¬ (c : Int) = x := fun h => e h.symm
          simp [e, e2, this])
    rw [h2, sumTo_add, h1, sumTo_one x (hb x (by simp)).1 n, if_pos (hb x (by simp)).2]
    simp; omega
theorem count_twice {α : Type} (f : α → List Int) (n : Nat) : ∀ (l : List α), (∀ x ∈ l, (f x).Nodup ∧ ∀ i ∈ f x, 0 ≤ i ∧ i < (n : Int)) → sumTo (fun c => l.countP (fun x => decide ((c : Int) ∈ f x))) n = (l.map (fun x => (f x).length)).sum
  | [], _ => by simp [sumTo_zero]
  | x :: l, h => by
    have h1 := count_twice f n l (fun y hy => h y (by simp [hy]))
    have h2 : sumTo (fun c => (x :: l).countP (fun x => decide ((c : Int) ∈ f x))) n = sumTo (fun c => l.countP (fun x => decide ((c : Int) ∈ f x)) + (if (c : Int) ∈ f x then 1 else 0)) n := sumTo_congr (fun c _ => by
      rw [List.countP_cons]
      simp)
    rw [h2, sumTo_add, h1, sumTo_mem (f x) n (h x (by simp)).1 (h x (by simp)).2]
    simp; omega
theorem nodup_of {l : List Int} {q : Nat → Int → Prop} (h : All (fun i x => q i x ∧ Fresh (· = ·) l x i) l) : l.Nodup := by
  unfold List.Nodup
  rw [List.pairwise_iff_getElem]
  intro i j hi hj hij e
  exact (h j l[j] (List.getElem?_eq_getElem hj)).2 i l[i] hij (List.getElem?_eq_getElem hi) e
theorem some_in {l : List Int} {most size : Int} (h : someP l most size) : l.Nodup ∧ ∀ i ∈ l, 0 ≤ i ∧ i < size :=
  ⟨nodup_of h.2.2, fun i hi => by obtain ⟨k, hk⟩ := List.getElem?_of_mem hi; exact (h.2.2 k i hk).1⟩
theorem sum_line (f : Ef → Int) : ∀ (l : List Ef), (∀ x ∈ l, 0 ≤ f x ∧ f x < 4) → sumTo (fun c => l.countP (fun x => f x == (c : Int))) 4 = l.length
  | [], _ => by simp [sumTo_zero]
  | x :: l, h => by
    have h1 := sum_line f l (fun y hy => h y (by simp [hy]))
    have h2 : sumTo (fun c => (x :: l).countP (fun x => f x == (c : Int))) 4 = sumTo (fun c => l.countP (fun x => f x == (c : Int)) + (if f x = (c : Int) then 1 else 0)) 4 := sumTo_congr (fun c _ => by
      rw [List.countP_cons]
      simp)
    rw [h2, sumTo_add, h1, sumTo_one (f x) (h x (by simp)).1 4, if_pos (show f x < ((4 : Nat) : Int) from (h x (by simp)).2)]
    simp
section
variable {m : Mat}
theorem ef_some (hr : RightP m) : ∀ x ∈ m.efs, someP x.cs 8 m.css.length := fun x hx => by
  obtain ⟨i, hi⟩ := List.getElem?_of_mem hx
  exact (hr.2.2.2.2.2.1.2 i x hi).2.2.2.1
theorem cs_some (hr : RightP m) : ∀ x ∈ m.css, someP x.pts 4 m.pts.length := fun x hx => by
  obtain ⟨i, hi⟩ := List.getElem?_of_mem hx
  exact (hr.2.2.2.2.1.2 i x hi).1
theorem effects_len (c : Nat) (hc : c < m.css.length) : (effectsF m c).length = m.efs.countP (fun x => decide ((c : Int) ∈ x.cs)) := by
  unfold effectsF
  rw [if_pos ⟨by omega, by omega⟩, ids_count]
theorem causes_len (c : Nat) (hc : c < m.pts.length) : (causesF m c).length = m.css.countP (fun x => decide ((c : Int) ∈ x.pts)) := by
  unfold causesF
  rw [if_pos ⟨by omega, by omega⟩, ids_count]
theorem on_len (c : Nat) (hc : c < 4) : (onF m c).length = m.efs.countP (fun x => lineOf m.devs x.dev == (c : Int)) := by
  unfold onF
  rw [if_pos ⟨by omega, by omega⟩, ids_count]
theorem pairs_sum (hr : RightP m) : sumTo (fun c => (effectsF m c).length) m.css.length = (m.efs.map (fun x => x.cs.length)).sum := by
  rw [sumTo_congr (fun c hc => effects_len c hc)]
  exact count_twice (·.cs) m.css.length m.efs (fun x hx => some_in (ef_some hr x hx))
theorem voters_sum (hr : RightP m) : sumTo (fun c => (causesF m c).length) m.pts.length = (m.css.map (fun x => x.pts.length)).sum := by
  rw [sumTo_congr (fun c hc => causes_len c hc)]
  exact count_twice (·.pts) m.pts.length m.css (fun x hx => some_in (cs_some hr x hx))
theorem line_in (hr : RightP m) : ∀ x ∈ m.efs, 0 ≤ lineOf m.devs x.dev ∧ lineOf m.devs x.dev < 4 := fun x hx => by
  obtain ⟨k, d, h1, h2⟩ := ef_dev hr x hx
  rw [h1, lineOf_of h2]
  obtain ⟨h3, -⟩ := hr.2.2.1.2 k d h2
  omega
theorem on_sum (hr : RightP m) : sumTo (fun c => (onF m c).length) 4 = m.efs.length := by
  rw [sumTo_congr (fun c hc => on_len c hc)]
  exact sum_line _ m.efs (line_in hr)
theorem ids_len_le {α : Type} (p : α → Bool) (l : List α) : (ids p l).length ≤ l.length := idsUpto_len p l l.length
theorem effects_le (n : Int) : (effectsF m n).length ≤ m.efs.length := by
  unfold effectsF; split
  · exact ids_len_le _ _
  · simp
theorem causes_le (n : Int) : (causesF m n).length ≤ m.css.length := by
  unfold causesF; split
  · exact ids_len_le _ _
  · simp
theorem on_le (n : Int) : (onF m n).length ≤ m.efs.length := by
  unfold onF; split
  · exact ids_len_le _ _
  · simp
theorem effect_in (hr : RightP m) {e : Nat} {x : Ef} (hx : m.efs[e]? = some x) {c : Int} (hc : c ∈ x.cs) : (e : Int) ∈ effectsF m c := by
  have h := (some_in (ef_some hr x (List.mem_of_getElem? hx))).2 c hc
  unfold effectsF
  rw [if_pos h]
  exact mem_ids.2 ⟨e, x, rfl, hx, decide_eq_true hc⟩
theorem cause_in (hr : RightP m) {e : Nat} {x : Cs} (hx : m.css[e]? = some x) {c : Int} (hc : c ∈ x.pts) : (e : Int) ∈ causesF m c := by
  have h := (some_in (cs_some hr x (List.mem_of_getElem? hx))).2 c hc
  unfold causesF
  rw [if_pos h]
  exact mem_ids.2 ⟨e, x, rfl, hx, decide_eq_true hc⟩
def sumUpto {α : Type} (f : α → Nat) (l : List α) (k : Nat) : Nat := ((l.take k).map f).sum
theorem sumUpto_zero {α : Type} (f : α → Nat) (l : List α) : sumUpto f l 0 = 0 := rfl
theorem sumUpto_all {α : Type} (f : α → Nat) (l : List α) : sumUpto f l l.length = (l.map f).sum := by unfold sumUpto; rw [List.take_length]
theorem sum_take {α : Type} (f : α → Nat) {l : List α} {k : Nat} {x : α} (hx : l[k]? = some x) : sumUpto f l (k + 1) = sumUpto f l k + f x := by
  unfold sumUpto
  rw [List.take_add_one, hx]
  simp
end
end Go.Proofs.Ytbpenoelmangkaa
