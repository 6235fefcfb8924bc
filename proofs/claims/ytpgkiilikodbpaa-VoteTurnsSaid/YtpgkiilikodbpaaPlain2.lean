/-
  PLAIN: more of what votes come to, over lists. No program is in sight.
-/
import Derived.Test.YtpgkiilikodbpaaPlain
namespace Go.Proofs.Ytpgkiilikodbpaa

/-- one in the place of another that counts alike -/
theorem cnt_set (p : Inn → Bool) {a b : Inn} (h : p a = p b) : ∀ (l : List Inn) (k : Nat), cnt p (l.set k a) = cnt p (l.set k b)
  | [], k => by simp
  | x :: l, 0 => by simp [cnt, List.filter_cons, h]; split <;> rfl
  | x :: l, k + 1 => by
    have := cnt_set p h l k
    simp only [cnt] at this
    simp only [cnt, List.set_cons_succ, List.filter_cons]
    split <;> simp [this]
theorem yes_le_votes (l : List Inn) : cnt Inn.yes l ≤ cnt Inn.votes l := by
  induction l with
  | nil => simp [cnt]
  | cons x l ih =>
    simp only [cnt] at ih
    simp only [cnt, List.filter_cons]
    cases h1 : x.yes <;> cases h2 : x.votes <;> simp_all [Inn.yes, Inn.votes] <;> omega
/-- all that vote vote yes, just if as many vote yes as vote -/
theorem all_yes (l : List Inn) : (l.all fun x => x.byp || (x.trip || x.bad)) = decide (cnt Inn.votes l ≤ cnt Inn.yes l) := by
  induction l with
  | nil => simp [cnt]
  | cons x l ih =>
    have hle := yes_le_votes l
    simp only [cnt] at ih hle
    simp only [cnt, List.filter_cons, List.all_cons, ih]
    rcases x with ⟨t, b, y⟩
    have e1 : Inn.votes ⟨t, b, y⟩ = !y := rfl
    have e2 : Inn.yes ⟨t, b, y⟩ = (!y && (t || b)) := rfl
    simp only [e1, e2]
    cases t <;> cases b <;> cases y <;> simp <;> first | omega | exact decide_eq_decide.2 Iff.rfl
theorem any_votes (l : List Inn) : (l.any Inn.votes) = decide (0 < cnt Inn.votes l) := by
  induction l with
  | nil => simp [cnt]
  | cons x l ih =>
    simp only [cnt] at ih
    simp only [cnt, List.filter_cons, List.any_cons, ih]
    cases h : x.votes <;> simp
theorem needL_all {n : Nat} {l : List Inn} (hn : l.length ≤ n) (h : 0 < cnt Inn.votes l) : needL n (cnt Inn.votes l) = cnt Inn.votes l := by
  have := cnt_le Inn.votes l
  unfold needL; omega
/-- of some of which all must trip: it trips just if one votes, and all that vote vote yes -/
theorem trips_all (l : List Inn) : tripsL l.length l = ((l.any Inn.votes) && (l.all fun x => x.byp || (x.trip || x.bad))) := by
  rw [any_votes, all_yes]
  unfold tripsL
  by_cases h : 0 < cnt Inn.votes l
  · rw [needL_all (Nat.le_refl _) h]
    simp [h]
  · simp [h]
theorem trips_set {a b : Inn} (hv : a.votes = b.votes) (hy : a.yes = b.yes) (n : Int) (l : List Inn) (k : Nat) : tripsL n (l.set k a) = tripsL n (l.set k b) := by
  unfold tripsL
  rw [cnt_set _ hv, cnt_set _ hy]
theorem all_take_succ (p : Inn → Bool) (l : List Inn) (k : Nat) (x : Inn) (h : l[k]? = some x) : (l.take (k + 1)).all p = ((l.take k).all p && p x) := by
  obtain ⟨hk, rfl⟩ := List.getElem?_eq_some_iff.1 h
  rw [List.take_succ_eq_append_getElem hk, List.all_append]
  simp
theorem any_take_succ (p : Inn → Bool) (l : List Inn) (k : Nat) (x : Inn) (h : l[k]? = some x) : (l.take (k + 1)).any p = ((l.take k).any p || p x) := by
  obtain ⟨hk, rfl⟩ := List.getElem?_eq_some_iff.1 h
  rw [List.take_succ_eq_append_getElem hk, List.any_append]
  simp
/-- of as many of every make, so of whatever counts -/
def PermB (a b : List Inn) : Prop := a.length = b.length ∧ ∀ p, cnt p a = cnt p b
theorem cnt_append (p : Inn → Bool) (a b : List Inn) : cnt p (a ++ b) = cnt p a + cnt p b := by simp [cnt]
theorem PermB.turn (l : List Inn) (k : Nat) : PermB (l.drop k ++ l.take k) l := by
  refine ⟨by simp; omega, fun p => ?_⟩
  have e := congrArg (cnt p) (List.take_append_drop k l)
  rw [cnt_append] at e
  rw [cnt_append]; omega
theorem cnt_set_add (p : Inn → Bool) : ∀ (l : List Inn) (i : Nat) (x y : Inn), l[i]? = some x → cnt p (l.set i y) + (if p x then 1 else 0) = cnt p l + (if p y then 1 else 0)
  | [], i, x, y, h => by simp at h
  | z :: l, 0, x, y, h => by
    simp only [List.getElem?_cons_zero, Option.some.injEq] at h
    subst h
    simp only [cnt, List.set_cons_zero, List.filter_cons]
    cases p z <;> cases p y <;> simp
  | z :: l, i + 1, x, y, h => by
    have := cnt_set_add p l i x y (by simpa using h)
    simp only [cnt] at this
    simp only [cnt, List.set_cons_succ, List.filter_cons]
    cases p z <;> simp <;> omega
/-- two of them, swapped -/
theorem PermB.swap {a b : List Inn} (h : PermB a b) {i j : Nat} {x y : Inn} (hi : a[i]? = some x) (hj : a[j]? = some y) : PermB ((a.set i y).set j x) b := by
  refine ⟨by simp [h.1], fun p => ?_⟩
  rw [← h.2 p]
  by_cases hij : i = j
  · subst hij
    rw [hi] at hj
    injection hj with hj
    subst hj
    have h1 := cnt_set_add p a i x x hi
    simp only [List.set_set]
    omega
  · have hj' : (a.set i y)[j]? = some y := by rw [List.getElem?_set_ne hij]; exact hj
    have h1 := cnt_set_add p a i x y hi
    have h2 := cnt_set_add p (a.set i y) j y x hj'
    omega
theorem PermB.trips {a b : List Inn} (h : PermB a b) (n : Int) : tripsL n a = tripsL n b := by unfold tripsL; rw [h.2, h.2]
theorem PermB.healthy {a b : List Inn} (h : PermB a b) (n : Int) : healthyL n a = healthyL n b := by unfold healthyL; rw [h.trips, h.1, h.2]
def anyB (l : List Inn) : Bool := l.any Inn.votes
def allB (l : List Inn) : Bool := l.all fun x => x.byp || (x.trip || x.bad)
theorem anyB_succ (l : List Inn) (k : Nat) (x : Inn) (h : l[k]? = some x) : anyB (l.take (k + 1)) = (anyB (l.take k) || !x.byp) := any_take_succ _ l k x h
theorem allB_succ (l : List Inn) (k : Nat) (x : Inn) (h : l[k]? = some x) : allB (l.take (k + 1)) = (allB (l.take k) && (x.byp || (x.trip || x.bad))) := all_take_succ _ l k x h
theorem trips_allB (l : List Inn) : tripsL l.length l = (anyB l && allB l) := trips_all l
end Go.Proofs.Ytpgkiilikodbpaa
