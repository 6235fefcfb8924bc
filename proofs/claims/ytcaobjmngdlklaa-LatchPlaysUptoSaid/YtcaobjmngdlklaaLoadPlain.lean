/-
  Load, plainly: which latches may be, and what they come to.
-/
import Derived.Test.YtcaobjmngdlklaaLatchAll
namespace Go.Proofs.Ytcaobjmngdlklaa
/-- one of those that are told may be -/
def okAt (gs : List Int) (l : List Lat) (i : Nat) (x : Lat) : Prop :=
  (x.set = false → x = ⟨false, 0, false⟩) ∧ (x.first = true → gs.getD i 0 ≠ 0 ∧ ∀ (j : Nat) (y : Lat), j < i → l[j]? = some y → y.first = true → gs.getD j 0 ≠ gs.getD i 0)
def Valid (gs : List Int) (l : List Lat) : Prop := l.length = gs.length ∧ ∀ (i : Nat) (x : Lat), l[i]? = some x → okAt gs l i x
def okUpto (gs : List Int) (l : List Lat) (k : Nat) : Prop := ∀ (i : Nat) (x : Lat), i < k → l[i]? = some x → okAt gs l i x
/-- the first ones, of so many -/
def FOK (gs : List Int) (l : List Lat) (k : Nat) (f : Int → Option Int) : Prop := ∀ g j, f g = some j ↔ ∃ (i : Nat) (x : Lat), i < k ∧ j = (i : Int) ∧ l[i]? = some x ∧ x.first = true ∧ gs.getD i 0 = g
/-- as latches -/
def ones (gs : List Int) (l : List Lat) : List One := l.mapIdx fun i x => ⟨x.set, x.at_, gs.getD i 0⟩
theorem ones_at (gs : List Int) (l : List Lat) (i : Nat) : (ones gs l)[i]? = l[i]?.map fun x => ⟨x.set, x.at_, gs.getD i 0⟩ := by simp [ones]
theorem ones_len (gs : List Int) (l : List Lat) : (ones gs l).length = l.length := by simp [ones]
def COK (gs : List Int) (l : List Lat) (k : Nat) (c : Int → Option Int) : Prop := ∀ g, g ≠ 0 → (c g).getD 0 = (many ((ones gs l).take k) g : Int)
theorem fok_zero (gs : List Int) (l : List Lat) : FOK gs l 0 (fun _ => none) := fun g j => ⟨fun h => (by cases h), fun ⟨i, x, h, _⟩ => absurd h (by omega)⟩
theorem cok_zero (gs : List Int) (l : List Lat) : COK gs l 0 (fun _ => none) := fun g _ => by simp [many]
theorem fok_no {gs : List Int} {l : List Lat} {k : Nat} {f : Int → Option Int} (h : FOK gs l k f) {x : Lat} (hx : l[k]? = some x) (hf : x.first = false) : FOK gs l (k + 1) f := by
  intro g j
  rw [h g j]
  constructor
  · rintro ⟨i, y, h1, h2⟩; exact ⟨i, y, by omega, h2⟩
  · rintro ⟨i, y, h1, h2, h3, h4, h5⟩
    refine ⟨i, y, ?_, h2, h3, h4, h5⟩
    by_cases e : i = k
    · subst e; rw [hx] at h3; injection h3 with h3; subst h3; rw [hf] at h4; cases h4
    · omega
theorem fok_yes {gs : List Int} {l : List Lat} {k : Nat} {f : Int → Option Int} (h : FOK gs l k f) {x : Lat} (hx : l[k]? = some x) (hf : x.first = true) (hn : f (gs.getD k 0) = none) : FOK gs l (k + 1) (upd f (gs.getD k 0) (some (k : Int))) := by
  intro g j
  by_cases hg : g = gs.getD k 0
  · subst hg
    rw [upd_same]
    constructor
    · intro e; injection e with e; exact ⟨k, x, by omega, e.symm, hx, hf, rfl⟩
    · rintro ⟨i, y, h1, h2, h3, h4, h5⟩
      by_cases e : i = k
      · subst e; rw [h2]
      · have := (h (gs.getD k 0) (i : Int)).2 ⟨i, y, by omega, rfl, h3, h4, h5⟩
        rw [hn] at this
        cases this
  · rw [upd_ne _ _ _ hg, h g j]
    constructor
    · rintro ⟨i, y, h1, h2⟩; exact ⟨i, y, by omega, h2⟩
    · rintro ⟨i, y, h1, h2, h3, h4, h5⟩
      refine ⟨i, y, ?_, h2, h3, h4, h5⟩
      by_cases e : i = k
      · subst e; exact absurd h5.symm hg
      · omega
theorem many_append (a b : List One) (g : Int) : many (a ++ b) g = many a g + many b g := by simp [many, List.filter_append]
theorem many_snoc {gs : List Int} {l : List Lat} {k : Nat} {x : Lat} (hx : l[k]? = some x) (g : Int) : many ((ones gs l).take (k + 1)) g = many ((ones gs l).take k) g + (if x.set && gs.getD k 0 == g then 1 else 0) := by
  have ho : (ones gs l)[k]? = some ⟨x.set, x.at_, gs.getD k 0⟩ := by rw [ones_at, hx]; rfl
  obtain ⟨hk, he⟩ := List.getElem?_eq_some_iff.1 ho
  rw [List.take_succ_eq_append_getElem hk, he, many_append]
  congr 1
  simp only [many, List.filter_cons, List.filter_nil]
  by_cases hc : (x.set && gs.getD k 0 == g) = true
  · rw [if_pos hc, if_pos hc]; rfl
  · rw [if_neg hc, if_neg hc]; rfl
theorem cok_no {gs : List Int} {l : List Lat} {k : Nat} {c : Int → Option Int} (h : COK gs l k c) {x : Lat} (hx : l[k]? = some x) (hs : x.set = false ∨ gs.getD k 0 = 0) : COK gs l (k + 1) c := by
  intro g hg
  rw [h g hg, many_snoc hx]
  have : (x.set && gs.getD k 0 == g) = false := by
    rcases hs with hs | hs
    · simp [hs]
    · simp only [hs, Bool.and_eq_false_iff, beq_eq_false_iff_ne]; right; exact Ne.symm hg
  rw [this]
  simp
theorem cok_yes {gs : List Int} {l : List Lat} {k : Nat} {c : Int → Option Int} (h : COK gs l k c) {x : Lat} (hx : l[k]? = some x) (hs : x.set = true) (hg0 : gs.getD k 0 ≠ 0) : COK gs l (k + 1) (upd c (gs.getD k 0) (some ((c (gs.getD k 0)).getD 0 + 1))) := by
  intro g hg
  rw [many_snoc hx]
  by_cases e : g = gs.getD k 0
  · subst e
    rw [upd_same, Option.getD_some, h _ hg0]
    simp [hs]
  · rw [upd_ne _ _ _ e, h g hg]
    have : (x.set && gs.getD k 0 == g) = false := by simp only [hs, Bool.true_and, beq_eq_false_iff_ne]; exact Ne.symm e
    rw [this]
    simp
theorem cok_bound {gs : List Int} {l : List Lat} {k : Nat} {c : Int → Option Int} (h : COK gs l k c) {g : Int} (hg : g ≠ 0) : 0 ≤ (c g).getD 0 ∧ (c g).getD 0 ≤ l.length := by
  rw [h g hg]
  have h1 := many_le ((ones gs l).take k) g
  have h2 : ((ones gs l).take k).length ≤ l.length := by rw [List.length_take, ones_len]; omega
  omega
theorem okUpto_zero (gs : List Int) (l : List Lat) : okUpto gs l 0 := fun i x h => absurd h (by omega)
theorem okUpto_step {gs : List Int} {l : List Lat} {k : Nat} {x : Lat} (h : okUpto gs l k) (hx : l[k]? = some x) (ho : okAt gs l k x) : okUpto gs l (k + 1) := by
  intro i y hi hy
  by_cases e : i = k
  · subst e; rw [hx] at hy; injection hy with hy; subst hy; exact ho
  · exact h i y (by omega) hy
theorem okUpto_all {gs : List Int} {l : List Lat} (h : okUpto gs l l.length) (hl : l.length = gs.length) : Valid gs l :=
  ⟨hl, fun i x hx => h i x (List.getElem?_eq_some_iff.1 hx).1 hx⟩
theorem okAt_first {gs : List Int} {l : List Lat} {k : Nat} {f : Int → Option Int} (h : FOK gs l k f) {x : Lat} (hs : x.set = true) (hg : x.first = true → gs.getD k 0 ≠ 0) (hn : x.first = true → f (gs.getD k 0) = none) : okAt gs l k x := by
  refine ⟨fun h0 => (by rw [hs] at h0; cases h0), fun hf => ⟨hg hf, fun j y hj hy hyf e => ?_⟩⟩
  have := (h (gs.getD k 0) (j : Int)).2 ⟨j, y, hj, rfl, hy, hyf, e⟩
  rw [hn hf] at this
  cases this
theorem not_okAt_first {gs : List Int} {l : List Lat} {k : Nat} {f : Int → Option Int} (h : FOK gs l k f) {x : Lat} (hf : x.first = true) {j : Int} (hj : f (gs.getD k 0) = some j) : ¬ okAt gs l k x := by
  intro ho
  obtain ⟨i, y, h1, h2, h3, h4, h5⟩ := (h _ _).1 hj
  exact (ho.2 hf).2 i y h1 h3 h4 h5
theorem not_valid {gs : List Int} {l : List Lat} {k : Nat} {x : Lat} (hx : l[k]? = some x) (h : ¬ okAt gs l k x) : ¬ Valid gs l := fun hv => h (hv.2 k x hx)
/-- what is loaded -/
def loaded (gs : List Int) (l : List Lat) (f c : Int → Option Int) : LS := ⟨ones gs l, f, c⟩
theorem inv_loaded {gs : List Int} {l : List Lat} {f c : Int → Option Int} (hv : Valid gs l) (hf : FOK gs l l.length f) (hc : COK gs l l.length c) : Inv (loaded gs l f c) := by
  refine ⟨fun g j hj => ?_, fun g hg => ?_, fun o ho hs => ?_⟩
  · obtain ⟨i, x, h1, h2, h3, h4, h5⟩ := (hf g j).1 hj
    subst h2
    have hok := hv.2 i x h3
    refine ⟨by omega, ?_, ⟨x.set, x.at_, gs.getD i 0⟩, ?_, ?_, h5⟩
    · rw [← h5]; exact (hok.2 h4).1
    · rw [Int.toNat_natCast]
      show (ones gs l)[i]? = _
      rw [ones_at, h3]; rfl
    · show x.set = true
      rcases hsx : x.set with _ | _
      · have := hok.1 hsx; rw [this] at h4; cases h4
      · rfl
  · have h1 := hc g hg
    rw [List.take_of_length_le (by rw [ones_len]; omega)] at h1
    exact h1
  · obtain ⟨i, hi⟩ := List.getElem?_of_mem ho
    have hi' : (ones gs l)[i]? = some o := hi
    rw [ones_at] at hi'
    rcases hx : l[i]? with _ | x
    · rw [hx] at hi'; cases hi'
    · rw [hx] at hi'
      simp only [Option.map_some, Option.some.injEq] at hi'
      subst hi'
      have := (hv.2 i x hx).1 hs
      rw [this]
theorem view_loaded {gs : List Int} {l : List Lat} {f c : Int → Option Int} (hv : Valid gs l) (hf : FOK gs l l.length f) : view (loaded gs l f c) = l := by
  apply List.ext_getElem?
  intro i
  rw [view_at]
  show ((ones gs l)[i]?).map (seen f i) = _
  rw [ones_at]
  rcases hx : l[i]? with _ | x
  · rfl
  · simp only [Option.map_some, Option.some.injEq]
    have hok := hv.2 i x hx
    unfold seen
    by_cases hs : x.set = true
    · rw [if_pos hs]
      have : decide (f (gs.getD i 0) = some (i : Int)) = x.first := by
        rcases hxf : x.first with _ | _
        · rw [decide_eq_false_iff_not, hf]
          rintro ⟨j, y, h1, h2, h3, h4, h5⟩
          have : j = i := by omega
          subst this
          rw [hx] at h3; injection h3 with h3; subst h3
          rw [hxf] at h4; cases h4
        · rw [decide_eq_true_eq, hf]
          exact ⟨i, x, (List.getElem?_eq_some_iff.1 hx).1, rfl, hx, hxf, rfl⟩
      rw [this]
      obtain ⟨a, b, c⟩ := x
      simp only at hs
      subst hs
      rfl
    · rw [if_neg hs]
      exact (hok.1 (by simpa using hs)).symm
theorem grps_loaded {gs : List Int} {l : List Lat} {f c : Int → Option Int} (hl : l.length = gs.length) : grps (loaded gs l f c) = gs := by
  apply List.ext_getElem?
  intro i
  rw [grps_at]
  show ((ones gs l)[i]?).map (·.grp) = _
  rw [ones_at]
  by_cases hi : i < gs.length
  · rw [List.getElem?_eq_getElem (by omega : i < l.length)]
    simp [hi, List.getD_eq_getElem?_getD]
  · rw [List.getElem?_eq_none (by omega : l.length ≤ i), List.getElem?_eq_none (by omega)]
    rfl
/-- what is seen of latches may be loaded -/
theorem valid_view {s : LS} (h : Inv s) : Valid (grps s) (view s) := by
  refine ⟨by rw [view_len]; simp [grps], fun i x hx => ?_⟩
  have hx0 := hx
  rw [view_at] at hx
  rcases ho : s.l[i]? with _ | o
  · rw [ho] at hx; cases hx
  · rw [ho] at hx
    simp only [Option.map_some, Option.some.injEq] at hx
    have hgi : (grps s).getD i 0 = o.grp := by rw [List.getD_eq_getElem?_getD, grps_at, ho]; rfl
    subst hx
    unfold okAt seen
    by_cases hs : o.set = true
    · rw [if_pos hs]
      refine ⟨fun h => (by cases h), fun hf => ?_⟩
      simp only [decide_eq_true_eq] at hf
      obtain ⟨_, hg, _⟩ := h.first _ _ hf
      refine ⟨by rw [hgi]; exact hg, fun j y hj hy hyf e => ?_⟩
      rw [hgi] at e
      obtain ⟨k, hk, _, _, _, _, _, huniq⟩ := first_some h hf
      have hik : i = k := by omega
      have hgj : (grps s)[j]? = some o.grp := by
        rcases hj' : (grps s)[j]? with _ | gj
        · rw [grps_at] at hj'
          rw [view_at] at hy
          rcases hoj : s.l[j]? with _ | oj
          · rw [hoj] at hy; cases hy
          · rw [hoj] at hj'; cases hj'
        · rw [List.getD_eq_getElem?_getD, hj'] at e
          simp only [Option.getD_some] at e
          rw [e]
      have := huniq j y hy hgj hyf
      omega
    · rw [if_neg hs]
      exact ⟨fun _ => rfl, fun h => (by cases h)⟩
end Go.Proofs.Ytcaobjmngdlklaa
