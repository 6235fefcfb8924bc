/-
  Latches, plainly: what the program keeps (a first one of each group, how many of each group are set), and what is seen of it.
-/
namespace Go.Proofs.Ytcaobjmngdlklaa
/-- a latch as it is kept -/
structure One where
  set : Bool
  at_ : Int
  grp : Int
/-- a latch as it is seen -/
structure Lat where
  set : Bool
  at_ : Int
  first : Bool
deriving DecidableEq
structure LS where
  l : List One
  first : Int → Option Int
  cnt : Int → Option Int
def upd (f : Int → Option Int) (k : Int) (v : Option Int) : Int → Option Int := fun x => if x = k then v else f x
theorem upd_same (f : Int → Option Int) (k : Int) (v : Option Int) : upd f k v k = v := by simp [upd]
theorem upd_ne (f : Int → Option Int) (k : Int) (v : Option Int) {x : Int} (h : x ≠ k) : upd f k v x = f x := by simp [upd, h]
/-- so many of a group are set -/
def many (l : List One) (g : Int) : Nat := (l.filter fun o : One => o.set && o.grp == g).length
/-- what a latch of a number is seen as -/
def seen (first : Int → Option Int) (i : Nat) (o : One) : Lat := if o.set then ⟨true, o.at_, decide (first o.grp = some (i : Int))⟩ else ⟨false, 0, false⟩
def view (s : LS) : List Lat := s.l.mapIdx (seen s.first)
def grps (s : LS) : List Int := s.l.map (·.grp)
theorem view_len (s : LS) : (view s).length = s.l.length := by simp [view]
theorem view_at (s : LS) (i : Nat) : (view s)[i]? = s.l[i]?.map (seen s.first i) := by simp [view]
theorem grps_at (s : LS) (i : Nat) : (grps s)[i]? = s.l[i]?.map (·.grp) := by simp [grps]
structure Inv (s : LS) : Prop where
  first : ∀ g f, s.first g = some f → 0 ≤ f ∧ g ≠ 0 ∧ ∃ o, s.l[f.toNat]? = some o ∧ o.set = true ∧ o.grp = g
  cnt : ∀ g, g ≠ 0 → (s.cnt g).getD 0 = (many s.l g : Int)
  zero : ∀ o ∈ s.l, o.set = false → o.at_ = 0
/-- one of a group is set just if so many are -/
theorem many_pos {l : List One} {g : Int} {i : Nat} {o : One} (h : l[i]? = some o) (hs : o.set = true) (hg : o.grp = g) : 0 < many l g := by
  unfold many
  refine List.length_pos_iff.2 fun e => ?_
  have := List.filter_eq_nil_iff.1 e o (List.mem_of_getElem? h)
  simp [hs, hg] at this
theorem many_zero {l : List One} {g : Int} (h : many l g = 0) (i : Nat) (o : One) (hi : l[i]? = some o) : ¬ (o.set = true ∧ o.grp = g) := by
  rintro ⟨hs, hg⟩
  have := many_pos hi hs hg
  omega
theorem many_ex {l : List One} {g : Int} (h : many l g ≠ 0) : ∃ (i : Nat) (o : One), l[i]? = some o ∧ o.set = true ∧ o.grp = g := by
  unfold many at h
  have h1 : (l.filter fun o : One => o.set && o.grp == g) ≠ [] := fun e => h (by rw [e]; rfl)
  obtain ⟨o, ho⟩ := List.exists_mem_of_ne_nil _ h1
  obtain ⟨hm, hp⟩ := List.mem_filter.1 ho
  obtain ⟨i, hi⟩ := List.getElem?_of_mem hm
  simp at hp
  exact ⟨i, o, hi, hp.1, hp.2⟩
theorem many_le (l : List One) (g : Int) : many l g ≤ l.length := List.length_filter_le _ _
/-- one is turned -/
theorem many_set : ∀ (l : List One) (i : Nat) (o o' : One) (g : Int), l[i]? = some o → many (l.set i o') g + (if o.set && o.grp == g then 1 else 0) = many l g + (if o'.set && o'.grp == g then 1 else 0)
  | [], _, _, _, _, h => by simp at h
  | x :: l, 0, o, o', g, h => by
    simp only [List.getElem?_cons_zero, Option.some.injEq] at h
    subst h
    simp only [List.set_cons_zero, many, List.filter_cons]
    by_cases h1 : (x.set && x.grp == g) = true <;> by_cases h2 : (o'.set && o'.grp == g) = true <;> simp [h1, h2]
  | x :: l, i + 1, o, o', g, h => by
    simp only [List.getElem?_cons_succ] at h
    have ih := many_set l i o o' g h
    simp only [List.set_cons_succ, many, List.filter_cons] at ih ⊢
    by_cases h1 : (x.set && x.grp == g) = true <;> simp [h1] at ih ⊢ <;> omega
/-! ### Trip -/
/-- does it become the first one? -/
def leads (s : LS) (g : Int) (k : Nat) (now : Int) : Prop :=
  (s.cnt g).getD 0 = 0 ∨ ∃ f, s.first g = some f ∧ (∃ o, s.l[f.toNat]? = some o ∧ o.at_ = now) ∧ (k : Int) < f
open Classical in
noncomputable def tripped (s : LS) (k : Nat) (o : One) (now : Int) : LS :=
  { l := s.l.set k { o with set := true, at_ := now }
    first := if o.grp ≠ 0 ∧ leads s o.grp k now then upd s.first o.grp (some k) else s.first
    cnt := if o.grp ≠ 0 then upd s.cnt o.grp (some ((s.cnt o.grp).getD 0 + 1)) else s.cnt }
theorem inv_tripped {s : LS} (h : Inv s) {k : Nat} {o : One} (ho : s.l[k]? = some o) (hs : o.set = false) (now : Int) : Inv (tripped s k o now) := by
  have hk : k < s.l.length := (List.getElem?_eq_some_iff.1 ho).1
  have hself : (s.l.set k { o with set := true, at_ := now })[k]? = some { o with set := true, at_ := now } := by simp [hk]
  refine ⟨?_, ?_, ?_⟩
  · intro g f hf
    have old : s.first g = some f → 0 ≤ f ∧ g ≠ 0 ∧ ∃ o', (s.l.set k { o with set := true, at_ := now })[f.toNat]? = some o' ∧ o'.set = true ∧ o'.grp = g := by
      intro hf
      obtain ⟨h0, hg, o', ho', hs', hg'⟩ := h.first g f hf
      have hne : k ≠ f.toNat := by
        rintro rfl
        rw [ho] at ho'
        injection ho' with e
        rw [e] at hs
        rw [hs] at hs'
        cases hs'
      exact ⟨h0, hg, o', by rw [List.getElem?_set_ne hne]; exact ho', hs', hg'⟩
    simp only [tripped] at hf ⊢
    by_cases hc : o.grp ≠ 0 ∧ leads s o.grp k now
    · rw [if_pos hc] at hf
      by_cases hg : g = o.grp
      · subst hg
        rw [upd_same] at hf
        injection hf with hf
        subst hf
        exact ⟨by omega, hc.1, { o with set := true, at_ := now }, by rw [Int.toNat_natCast]; exact hself, rfl, rfl⟩
      · rw [upd_ne _ _ _ hg] at hf
        exact old hf
    · rw [if_neg hc] at hf
      exact old hf
  · intro g hg
    have hm := many_set s.l k o { o with set := true, at_ := now } g ho
    simp only [hs, Bool.false_and, Bool.true_and, if_false, beq_iff_eq, Bool.false_eq_true] at hm
    simp only [tripped]
    by_cases h0 : o.grp ≠ 0
    · rw [if_pos h0]
      by_cases he : g = o.grp
      · subst he
        rw [upd_same, Option.getD_some, h.cnt _ h0]
        simp only [if_true] at hm
        omega
      · rw [upd_ne _ _ _ he, h.cnt g hg]
        rw [if_neg (Ne.symm he)] at hm
        omega
    · rw [if_neg h0, h.cnt g hg]
      rw [if_neg (by omega)] at hm
      omega
  · intro o' ho' hs'
    simp only [tripped] at ho'
    rcases List.mem_or_eq_of_mem_set ho' with h1 | rfl
    · exact h.zero o' h1 hs'
    · cases hs'
/-! ### Reset -/
open Classical in
noncomputable def cleared (s : LS) (k : Nat) (o : One) : LS :=
  { l := s.l.set k { o with set := false, at_ := 0 }
    first := if o.grp ≠ 0 ∧ s.first o.grp = some (k : Int) then upd s.first o.grp none else s.first
    cnt := if o.grp ≠ 0 then (if (s.cnt o.grp).getD 0 - 1 = 0 then upd s.cnt o.grp none else upd s.cnt o.grp (some ((s.cnt o.grp).getD 0 - 1))) else s.cnt }
theorem inv_cleared {s : LS} (h : Inv s) {k : Nat} {o : One} (ho : s.l[k]? = some o) (hs : o.set = true) : Inv (cleared s k o) := by
  have hk : k < s.l.length := (List.getElem?_eq_some_iff.1 ho).1
  refine ⟨?_, ?_, ?_⟩
  · intro g f hf
    have old : s.first g = some f → f ≠ k → 0 ≤ f ∧ g ≠ 0 ∧ ∃ o', (s.l.set k { o with set := false, at_ := 0 })[f.toNat]? = some o' ∧ o'.set = true ∧ o'.grp = g := by
      intro hf hfk
      obtain ⟨h0, hg, o', ho', hs', hg'⟩ := h.first g f hf
      have hne : k ≠ f.toNat := by omega
      exact ⟨h0, hg, o', by rw [List.getElem?_set_ne hne]; exact ho', hs', hg'⟩
    simp only [cleared] at hf ⊢
    by_cases hc : o.grp ≠ 0 ∧ s.first o.grp = some (k : Int)
    · rw [if_pos hc] at hf
      by_cases hg : g = o.grp
      · subst hg
        rw [upd_same] at hf
        cases hf
      · rw [upd_ne _ _ _ hg] at hf
        refine old hf ?_
        rintro rfl
        obtain ⟨_, _, o', ho', _, hg'⟩ := h.first g _ hf
        rw [Int.toNat_natCast, ho] at ho'
        injection ho' with e
        subst e
        exact hg hg'.symm
    · rw [if_neg hc] at hf
      refine old hf ?_
      rintro rfl
      obtain ⟨_, hg0, o', ho', _, hg'⟩ := h.first g _ hf
      rw [Int.toNat_natCast, ho] at ho'
      injection ho' with e
      subst e
      subst hg'
      exact hc ⟨hg0, hf⟩
  · intro g hg
    have hm := many_set s.l k o { o with set := false, at_ := 0 } g ho
    simp only [hs, Bool.false_and, Bool.true_and, if_false, beq_iff_eq, Bool.false_eq_true] at hm
    simp only [cleared]
    by_cases h0 : o.grp ≠ 0
    · rw [if_pos h0]
      by_cases he : g = o.grp
      · subst he
        simp only [if_true] at hm
        have hc := h.cnt _ h0
        by_cases h1 : (s.cnt o.grp).getD 0 - 1 = 0
        · rw [if_pos h1, upd_same, Option.getD_none]; omega
        · rw [if_neg h1, upd_same, Option.getD_some]; omega
      · rw [if_neg (Ne.symm he)] at hm
        have hc := h.cnt g hg
        by_cases h1 : (s.cnt o.grp).getD 0 - 1 = 0
        · rw [if_pos h1, upd_ne _ _ _ he, hc]; omega
        · rw [if_neg h1, upd_ne _ _ _ he, hc]; omega
    · rw [if_neg h0, h.cnt g hg]
      rw [if_neg (by omega)] at hm
      omega
  · intro o' ho' hs'
    simp only [cleared] at ho'
    rcases List.mem_or_eq_of_mem_set ho' with h1 | rfl
    · exact h.zero o' h1 hs'
    · rfl
/-! ### what is seen -/
theorem view_cleared {s : LS} {k : Nat} {o : One} (ho : s.l[k]? = some o) : view (cleared s k o) = (view s).set k ⟨false, 0, false⟩ := by
  have hk : k < s.l.length := (List.getElem?_eq_some_iff.1 ho).1
  refine List.ext_getElem? fun i => ?_
  rw [view_at]
  simp only [cleared]
  by_cases hi : i = k
  · subst hi
    rw [List.getElem?_set_self hk, List.getElem?_set_self (by rw [view_len]; exact hk)]
    simp [seen]
  · rw [List.getElem?_set_ne (Ne.symm hi), List.getElem?_set_ne (Ne.symm hi), view_at]
    rcases hx : s.l[i]? with _ | x
    · rfl
    · simp only [Option.map_some, Option.some.injEq]
      unfold seen
      by_cases hxs : x.set = true
      · rw [if_pos hxs, if_pos hxs]
        by_cases hc : o.grp ≠ 0 ∧ s.first o.grp = some (k : Int)
        · rw [if_pos hc]
          by_cases hg : x.grp = o.grp
          · rw [hg, upd_same, hc.2]
            have : ¬ (k : Int) = (i : Int) := by omega
            simp [this]
          · rw [upd_ne _ _ _ hg]
        · rw [if_neg hc]
      · rw [if_neg hxs, if_neg hxs]
/-- the first one of a group, as it is seen: none -/
theorem first_none {s : LS} {g : Int} (h0 : s.first g = none) (i : Nat) (x : Lat) (hx : (view s)[i]? = some x) (hg : (grps s)[i]? = some g) : x.first = false := by
  rw [view_at] at hx
  rw [grps_at] at hg
  rcases ho : s.l[i]? with _ | o
  · rw [ho] at hx; cases hx
  · rw [ho] at hx hg
    simp only [Option.map_some, Option.some.injEq] at hx hg
    subst hx hg
    unfold seen
    by_cases hs : o.set = true
    · rw [if_pos hs, h0]; simp
    · rw [if_neg hs]
/-- .. one, and no other -/
theorem first_some {s : LS} (h : Inv s) {g f : Int} (h0 : s.first g = some f) : ∃ k : Nat, f = k ∧ ∃ o, s.l[k]? = some o ∧ o.set = true ∧ o.grp = g ∧ (view s)[k]? = some ⟨true, o.at_, true⟩ ∧
    ∀ (i : Nat) (x : Lat), (view s)[i]? = some x → (grps s)[i]? = some g → x.first = true → i = k := by
  obtain ⟨hf0, hg, o, ho, hs, hgr⟩ := h.first g f h0
  refine ⟨f.toNat, by omega, o, ho, hs, hgr, ?_, ?_⟩
  · rw [view_at, ho]
    have : some f = some ((f.toNat : Nat) : Int) := by congr 1; omega
    simp [seen, hs, hgr, h0, this]
  · intro i x hx hgi hxf
    rw [view_at] at hx
    rw [grps_at] at hgi
    rcases ho' : s.l[i]? with _ | o'
    · rw [ho'] at hx; cases hx
    · rw [ho'] at hx hgi
      simp only [Option.map_some, Option.some.injEq] at hx hgi
      subst hx hgi
      unfold seen at hxf
      by_cases hs' : o'.set = true
      · rw [if_pos hs', h0] at hxf
        simp at hxf
        omega
      · rw [if_neg hs'] at hxf
        cases hxf
theorem leads_none {s : LS} (h : Inv s) {g : Int} (hg : g ≠ 0) (h0 : s.first g = none) (k : Nat) (now : Int) : leads s g k now ↔ many s.l g = 0 := by
  unfold leads
  rw [h.cnt g hg, h0]
  constructor
  · rintro (h1 | ⟨f, h1, _⟩)
    · omega
    · cases h1
  · intro h1
    left
    omega
theorem leads_some {s : LS} (h : Inv s) {g f : Int} (h0 : s.first g = some f) {o : One} (ho : s.l[f.toNat]? = some o) (k : Nat) (now : Int) : leads s g k now ↔ (o.at_ = now ∧ (k : Int) < f) := by
  obtain ⟨_, hg, o', ho', hs, hgr⟩ := h.first g f h0
  have hp := many_pos ho' hs hgr
  unfold leads
  rw [h.cnt g hg, h0]
  constructor
  · rintro (h1 | ⟨f', h1, ⟨o2, h2, h3⟩, h4⟩)
    · omega
    · injection h1 with h1
      subst h1
      rw [ho] at h2
      injection h2 with h2
      subst h2
      exact ⟨h3, h4⟩
  · rintro ⟨h1, h2⟩
    exact .inr ⟨f, rfl, ⟨o, ho, h1⟩, h2⟩
/-- another latch's look, where the group's first one is none any more, or stays -/
theorem view_same {s : LS} {k : Nat} {o : One} (ho : s.l[k]? = some o) (now : Int) (hl : ¬ (o.grp ≠ 0 ∧ leads s o.grp k now)) (hf : s.first o.grp ≠ some (k : Int)) : view (tripped s k o now) = (view s).set k ⟨true, now, false⟩ := by
  have hk : k < s.l.length := (List.getElem?_eq_some_iff.1 ho).1
  refine List.ext_getElem? fun i => ?_
  rw [view_at]
  simp only [tripped]
  rw [if_neg hl]
  by_cases hi : i = k
  · subst hi
    rw [List.getElem?_set_self hk, List.getElem?_set_self (by rw [view_len]; exact hk)]
    simp [seen, hf]
  · rw [List.getElem?_set_ne (Ne.symm hi), List.getElem?_set_ne (Ne.symm hi), view_at]
theorem view_lead {s : LS} {k : Nat} {o : One} (ho : s.l[k]? = some o) (now : Int) (hl : o.grp ≠ 0 ∧ leads s o.grp k now) (hf : s.first o.grp = none) : view (tripped s k o now) = (view s).set k ⟨true, now, true⟩ := by
  have hk : k < s.l.length := (List.getElem?_eq_some_iff.1 ho).1
  refine List.ext_getElem? fun i => ?_
  rw [view_at]
  simp only [tripped]
  rw [if_pos hl]
  by_cases hi : i = k
  · subst hi
    rw [List.getElem?_set_self hk, List.getElem?_set_self (by rw [view_len]; exact hk)]
    simp [seen, upd_same]
  · rw [List.getElem?_set_ne (Ne.symm hi), List.getElem?_set_ne (Ne.symm hi), view_at]
    rcases hx : s.l[i]? with _ | x
    · rfl
    · simp only [Option.map_some, Option.some.injEq]
      unfold seen
      by_cases hg : x.grp = o.grp
      · rw [hg, upd_same, hf]
        have : ¬ (k : Int) = (i : Int) := by omega
        simp [this]
      · rw [upd_ne _ _ _ hg]
theorem view_flip {s : LS} (h : Inv s) {k f : Nat} {o o2 : One} (ho : s.l[k]? = some o) (hs : o.set = false) (now : Int) (hl : o.grp ≠ 0 ∧ leads s o.grp k now) (hf : s.first o.grp = some (f : Int)) (h2 : s.l[f]? = some o2) :
    view (tripped s k o now) = ((view s).set f ⟨true, o2.at_, false⟩).set k ⟨true, now, true⟩ := by
  have hk : k < s.l.length := (List.getElem?_eq_some_iff.1 ho).1
  obtain ⟨_, _, o3, h3, hs3, hg3⟩ := h.first _ _ hf
  rw [Int.toNat_natCast, h2] at h3
  injection h3 with h3
  subst h3
  have hfk : f ≠ k := by
    rintro rfl
    rw [ho] at h2
    injection h2 with h2
    rw [h2, hs3] at hs
    cases hs
  refine List.ext_getElem? fun i => ?_
  rw [view_at]
  simp only [tripped]
  rw [if_pos hl]
  by_cases hi : i = k
  · subst hi
    rw [List.getElem?_set_self hk, List.getElem?_set_self (by rw [List.length_set, view_len]; exact hk)]
    simp [seen, upd_same]
  · rw [List.getElem?_set_ne (Ne.symm hi), List.getElem?_set_ne (Ne.symm hi)]
    by_cases hif : i = f
    · subst hif
      rw [List.getElem?_set_self (by rw [view_len]; exact (List.getElem?_eq_some_iff.1 h2).1), h2]
      have : ¬ (k : Int) = (i : Int) := by omega
      simp [seen, hs3, hg3, upd_same, this]
    · rw [List.getElem?_set_ne (Ne.symm hif), view_at]
      rcases hx : s.l[i]? with _ | x
      · rfl
      · simp only [Option.map_some, Option.some.injEq]
        unfold seen
        by_cases hg : x.grp = o.grp
        · rw [hg, upd_same, hf]
          have h5 : ¬ (k : Int) = (i : Int) := by omega
          have h6 : ¬ (f : Int) = (i : Int) := by omega
          simp [h5, h6]
        · rw [upd_ne _ _ _ hg]
theorem grps_tripped {s : LS} {k : Nat} {o : One} (ho : s.l[k]? = some o) (now : Int) : grps (tripped s k o now) = grps s := by
  refine List.ext_getElem? fun i => ?_
  simp only [grps, tripped, List.getElem?_map]
  by_cases hi : i = k
  · subst hi
    rw [List.getElem?_set_self (List.getElem?_eq_some_iff.1 ho).1, ho]
    rfl
  · rw [List.getElem?_set_ne (Ne.symm hi)]
theorem grps_cleared {s : LS} {k : Nat} {o : One} (ho : s.l[k]? = some o) : grps (cleared s k o) = grps s := by
  refine List.ext_getElem? fun i => ?_
  simp only [grps, cleared, List.getElem?_map]
  by_cases hi : i = k
  · subst hi
    rw [List.getElem?_set_self (List.getElem?_eq_some_iff.1 ho).1, ho]
    rfl
  · rw [List.getElem?_set_ne (Ne.symm hi)]
/-! ### new -/
def fresh (gs : List Int) : LS := ⟨gs.map fun g => ⟨false, 0, g⟩, fun _ => none, fun _ => none⟩
theorem many_fresh (gs : List Int) (g : Int) : many (fresh gs).l g = 0 := by
  unfold many fresh
  simp
theorem inv_fresh (gs : List Int) : Inv (fresh gs) := by
  refine ⟨fun g f h => (by cases h), fun g hg => ?_, fun o ho hs => ?_⟩
  · rw [many_fresh]; rfl
  · obtain ⟨x, _, rfl⟩ := List.mem_map.1 ho; rfl
theorem grps_fresh (gs : List Int) : grps (fresh gs) = gs := by simp [grps, fresh, Function.comp_def]
theorem view_fresh (gs : List Int) : view (fresh gs) = gs.map fun _ => ⟨false, 0, false⟩ := by
  refine List.ext_getElem? fun i => ?_
  rw [view_at]
  simp [fresh, seen, Function.comp_def]
end Go.Proofs.Ytcaobjmngdlklaa
