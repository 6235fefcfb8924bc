/-
  The plain reader of lines; matrices without their slices.
  A line is read as the plain reader reads it.
-/
import Derived.Test.YtckbdnkonccmiaaDoorMatLine
namespace Go.Proofs.YtckbdnkonccmiaaDoor
open Go.RowKit
instance allDec {α : Type} (p : Nat → α → Prop) [∀ i x, Decidable (p i x)] (l : List α) : Decidable (All p l) :=
  decidable_of_iff (∀ i, i < l.length → ∀ x, x ∈ l[i]? → p i x) ⟨fun h i x hx => h i (List.getElem?_eq_some_iff.1 hx).1 x hx, fun h i _ x hx => h i x hx⟩
instance uptoDec {α : Type} (p : Nat → α → Prop) [∀ i x, Decidable (p i x)] (l : List α) (k : Nat) : Decidable (Upto p l k) :=
  decidable_of_iff (∀ i, i < k → ∀ x, x ∈ l[i]? → p i x) ⟨fun h i x hi hx => h i hi x hx, fun h i hi x hx => h i x hi hx⟩
instance freshDec {α : Type} (same : α → α → Prop) [∀ x y, Decidable (same x y)] (l : List α) (x : α) (k : Nat) : Decidable (Fresh same l x k) :=
  decidable_of_iff (∀ j, j < k → ∀ y, y ∈ l[j]? → ¬ same y x) ⟨fun h j y hj hy => h j hj y hy, fun h j hj y hy => h j y hj hy⟩
instance (l : List Int) (most size : Int) : Decidable (someP l most size) := by unfold someP; infer_instance
instance (l : List Dev) (i : Nat) (d : Dev) : Decidable (devP l i d) := by unfold devP; infer_instance
instance (l : List Dev) : Decidable (devsP l) := by unfold devsP; infer_instance
instance (l : List Pt) (size : Int) (i : Nat) (p : Pt) : Decidable (ptP l size i p) := by unfold ptP; infer_instance
instance (l : List Pt) (size : Int) : Decidable (ptsP l size) := by unfold ptsP; infer_instance
instance (size : Int) (i : Nat) (c : Cs) : Decidable (csP size i c) := by unfold csP; infer_instance
instance (l : List Cs) (size : Int) : Decidable (cssP l size) := by unfold cssP; infer_instance
instance (l : List Ef) (size many : Int) (i : Nat) (e : Ef) : Decidable (efP l size many i e) := by unfold efP; infer_instance
instance (l : List Ef) (size many : Int) : Decidable (efsP l size many) := by unfold efsP; infer_instance
instance (l : List ByteArray) : Decidable (namesP l) := by unfold namesP; infer_instance
instance (m : Mat) : Decidable (timesP m) := by unfold timesP; infer_instance
instance (m : Mat) : Decidable (RightP m) := by unfold RightP; infer_instance
/-! ### matrices without their slices -/
def nilV : Value := .slice none 0 0
def bareC (x : Cs) : Cs := { x with v := nilV }
def bareE (x : Ef) : Ef := { x with v := nilV }
def Mat.bare (m : Mat) : Mat := { m with css := m.css.map bareC, efs := m.efs.map bareE }
theorem all_map {α β : Type} {p : Nat → β → Prop} {q : Nat → α → Prop} {f : α → β} (h : ∀ i x, p i (f x) ↔ q i x) (l : List α) : All p (l.map f) ↔ All q l := by
  constructor
  · intro ha i x hx
    exact (h i x).1 (ha i (f x) (by rw [List.getElem?_map, hx]; rfl))
  · intro ha i y hy
    rw [List.getElem?_map, Option.map_eq_some_iff] at hy
    obtain ⟨x, hx, rfl⟩ := hy
    exact (h i x).2 (ha i x hx)
theorem fresh_map {α β : Type} {same : β → β → Prop} {same' : α → α → Prop} {f : α → β} (h : ∀ x y, same (f x) (f y) ↔ same' x y) (l : List α) (x : α) (i : Nat) : Fresh same (l.map f) (f x) i ↔ Fresh same' l x i := by
  constructor
  · intro ha j y hj hy hs
    exact ha j (f y) hj (by rw [List.getElem?_map, hy]; rfl) ((h y x).2 hs)
  · intro ha j y hj hy hs
    rw [List.getElem?_map, Option.map_eq_some_iff] at hy
    obtain ⟨z, hz, rfl⟩ := hy
    exact ha j z hj hz ((h z x).1 hs)
theorem cssP_bare (l : List Cs) (size : Int) : cssP (l.map bareC) size ↔ cssP l size := by
  unfold cssP
  rw [List.length_map]
  exact and_congr Iff.rfl (all_map (f := bareC) (fun i x => Iff.rfl) l)
theorem efsP_bare (l : List Ef) (size many : Int) : efsP (l.map bareE) size many ↔ efsP l size many := by
  unfold efsP
  rw [List.length_map]
  refine and_congr Iff.rfl (all_map (f := bareE) (fun i x => ?_) l)
  unfold efP
  rw [fresh_map (same' := fun a b : Ef => a.dev = b.dev ∧ a.place = b.place) (fun x y => Iff.rfl)]
  exact Iff.rfl
theorem names_bare (m : Mat) : m.bare.names = m.names := by
  unfold Mat.names Mat.bare
  simp only [List.map_map]
  rfl
theorem right_bare (m : Mat) : RightP m.bare ↔ RightP m := by
  unfold RightP
  rw [names_bare]
  have h1 := cssP_bare m.css m.pts.length
  have h2 := efsP_bare m.efs m.devs.length m.css.length
  have e : (m.bare.css.length : Int) = m.css.length := by unfold Mat.bare; simp
  constructor
  · rintro ⟨a, b, c, d, e1, f, g⟩
    exact ⟨a, b, c, d, h1.1 e1, h2.1 (by rw [e] at f; exact f), g⟩
  · rintro ⟨a, b, c, d, e1, f, g⟩
    exact ⟨a, b, c, d, h1.2 e1, by rw [e]; exact h2.2 f, g⟩
theorem sofar_bare (m : Mat) (wt lk : Bool) : (sofarM m wt lk).bare = sofarM m.bare wt lk := rfl
/-! ### the plain reader -/
/-- what was read: the matrix, its names, whether watch and key came -/
structure PSt where
  m : Mat
  kn : Kn
  wt : Bool
  lk : Bool
def zeroMat : Mat := ⟨0, 0, 0, 0, noW, [], [], [], []⟩
def startP : PSt := ⟨zeroMat, fun _ => none, false, false⟩
/-- a line's words are taken -/
def stepF (p : PSt) (x : ByteArray) (t : List ByteArray) : PSt × Row :=
  let s : Row := (t, false, false)
  if x = bWatch then
    let a := watchF p.wt s
    ({ p with m := { p.m with retries := a.1.1, wait := a.1.2.1, back := a.1.2.2.1, cycle := a.1.2.2.2 }, wt := true }, a.2)
  else if x = bKey then ({ p with m := { p.m with key := (wordF t p.lk).1 }, lk := true }, ((wordF t p.lk).2, p.lk, false))
  else if x = bDevice then
    let a := deviceF p.kn s
    ({ p with m := { p.m with devs := p.m.devs ++ [a.1] }, kn := updK p.kn a.1.name (0, (p.m.devs.length : Int)) }, a.2)
  else if x = bPoint then
    let a := pointF p.kn s
    ({ p with m := { p.m with pts := p.m.pts ++ [a.1] }, kn := updK p.kn a.1.name (1, (p.m.pts.length : Int)) }, a.2)
  else if x = bCause then
    let a := causeF p.kn s nilV
    ({ p with m := { p.m with css := p.m.css ++ [a.1] }, kn := updK p.kn a.1.name (2, (p.m.css.length : Int)) }, a.2)
  else
    let a := effectF p.kn s nilV
    ({ p with m := { p.m with efs := p.m.efs ++ [a.1] }, kn := updK p.kn a.1.name (3, (p.m.efs.length : Int)) }, a.2)
/-- may a line of that first word have so many? -/
def countB (x : ByteArray) (n : Nat) : Bool :=
  if x = bWatch then decide (n = 5) else if x = bKey then decide (n = 2) else if x = bDevice then decide (n = 4) else if x = bPoint then decide (n = 7)
  else if x = bCause then decide (6 ≤ n ∧ n ≤ 9) else if x = bEffect then decide (6 ≤ n ∧ n ≤ 13) else false
def lineF (p : PSt) (ws : List ByteArray) : Int × PSt := match ws with
  | [] => (81, p)
  | x :: t => if countB x (t.length + 1) = true then (codeOf (stepF p x t).2 (decide (RightP (sofarM (stepF p x t).1.m (stepF p x t).1.wt (stepF p x t).1.lk))), (stepF p x t).1) else (81, p)
/-- all lines: what is wrong first, and where; or what was read -/
def runF : PSt → List (Int × List ByteArray) → (Int × Int) ⊕ PSt
  | p, [] => .inr p
  | p, l :: r => if (lineF p l.2).1 = 0 then runF (lineF p l.2).2 r else .inl ((lineF p l.2).1, l.1)
/-- the matrix of a text; or what is wrong, and where -/
def parseF (s : List UInt8) : (Int × Int) ⊕ Mat := match textE s with
  | some e => .inl e
  | none => match runF startP (toldL (textL s)) with
    | .inl e => .inl e
    | .inr p => if p.wt = true ∧ p.lk = true then .inr p.m else .inl (81, 0)
end Go.Proofs.YtckbdnkonccmiaaDoor
namespace Go.Proofs.YtckbdnkonccmiaaDoor
open Go.RowKit
/-- no list too long, no name too big -/
structure SmallM (m : Mat) (n : Nat) : Prop where
  key : m.key.size ≤ 1000000
  ds : ∀ x ∈ m.devs, x.name.size ≤ 1000000
  ps : ∀ x ∈ m.pts, x.name.size ≤ 1000000
  cs : ∀ x ∈ m.css, x.name.size ≤ 1000000 ∧ x.pts.length ≤ 100000
  es : ∀ x ∈ m.efs, x.name.size ≤ 1000000 ∧ x.cs.length ≤ 100000
  len : m.devs.length ≤ n ∧ m.pts.length ≤ n ∧ m.css.length ≤ n ∧ m.efs.length ≤ n
theorem SmallM.mono {m : Mat} {n k : Nat} (h : SmallM m n) (hk : n ≤ k) : SmallM m k := ⟨h.key, h.ds, h.ps, h.cs, h.es, by have := h.len; omega⟩
theorem SmallM.small {m : Mat} {n : Nat} (h : SmallM m n) (hn : n ≤ 1000000) (wt lk : Bool) : MatSmall (sofarM m wt lk) := by
  obtain ⟨h1, h2, h3, h4⟩ := h.len
  refine ⟨?_, by show m.devs.length ≤ _; omega, by show m.pts.length ≤ _; omega, by show m.css.length ≤ _; omega, by show m.efs.length ≤ _; omega, fun c hc => by have := (h.cs c hc).2; omega, fun c hc => by have := (h.es c hc).2; omega, fun s hs => ?_⟩
  · show (if lk = true then m.key else zeroKey).size ≤ _
    split
    · have := h.key; omega
    · simp [zeroKey, ByteArray.size]
  · have hs' : s ∈ m.names := hs
    unfold Mat.names at hs'
    simp only [List.mem_append, List.mem_map] at hs'
    rcases hs' with ((⟨x, hx, rfl⟩ | ⟨x, hx, rfl⟩) | ⟨x, hx, rfl⟩) | ⟨x, hx, rfl⟩
    · have := h.ds x hx; omega
    · have := h.ps x hx; omega
    · have := (h.cs x hx).1; omega
    · have := (h.es x hx).1; omega
theorem all_app {α : Type} {p : α → Prop} {l : List α} {x : α} (h : ∀ y ∈ l, p y) (hx : p x) : ∀ y ∈ l ++ [x], p y := by
  intro y hy
  rcases List.mem_append.1 hy with hy | hy
  · exact h y hy
  · obtain rfl := List.mem_singleton.1 hy; exact hx
theorem SmallM.app_ds {m : Mat} {n : Nat} (h : SmallM m n) {x : Dev} (hx : x.name.size ≤ 1000000) : SmallM { m with devs := m.devs ++ [x] } (n + 1) :=
  ⟨h.key, all_app h.ds hx, h.ps, h.cs, h.es, by have := h.len; simp only [List.length_append, List.length_singleton]; omega⟩
theorem SmallM.app_ps {m : Mat} {n : Nat} (h : SmallM m n) {x : Pt} (hx : x.name.size ≤ 1000000) : SmallM { m with pts := m.pts ++ [x] } (n + 1) :=
  ⟨h.key, h.ds, all_app h.ps hx, h.cs, h.es, by have := h.len; simp only [List.length_append, List.length_singleton]; omega⟩
theorem SmallM.app_cs {m : Mat} {n : Nat} (h : SmallM m n) {x : Cs} (hx : x.name.size ≤ 1000000 ∧ x.pts.length ≤ 100000) : SmallM { m with css := m.css ++ [x] } (n + 1) :=
  ⟨h.key, h.ds, h.ps, all_app h.cs hx, h.es, by have := h.len; simp only [List.length_append, List.length_singleton]; omega⟩
theorem SmallM.app_es {m : Mat} {n : Nat} (h : SmallM m n) {x : Ef} (hx : x.name.size ≤ 1000000 ∧ x.cs.length ≤ 100000) : SmallM { m with efs := m.efs ++ [x] } (n + 1) :=
  ⟨h.key, h.ds, h.ps, h.cs, all_app h.es hx, by have := h.len; simp only [List.length_append, List.length_singleton]; omega⟩
theorem restGo_len (kn : Kn) (kind : Int) : ∀ (l : List ByteArray) (un : Bool), (restGo kn kind l un).1.length = l.length
  | [], _ => rfl
  | x :: t, un => by
    unfold restGo
    simp only [List.length_cons]
    rw [restGo_len kn kind t]
theorem restS_len {kn : Kn} {kind : Int} {s : Row} (h : Fits s.1) : (restS kn kind s).1.length ≤ 100000 := by
  unfold restS restF
  simp only
  split
  · exact Nat.zero_le _
  · simp only
    rw [restGo_len]
    exact h.1
/-- the reader's state is the plain reader's, after n lines -/
structure ToldAs (c : RC) (p : PSt) (n : Nat) : Prop where
  m : c.m.bare = p.m
  kn : c.kn = p.kn
  wt : c.wt = p.wt
  lk : c.lk = p.lk
  many : c.N ≤ n
  small : SmallM c.m n
theorem ToldAs.right {c : RC} {p : PSt} {n : Nat} (h : ToldAs c p n) : RightP (sofarM c.m c.wt c.lk) ↔ RightP (sofarM p.m p.wt p.lk) := by
  rw [← right_bare, sofar_bare, h.m, h.wt, h.lk]
/-- what reading a line leaves -/
def After (c : RC) (p : PSt) (n : Nat) (ws : List ByteArray) (e : Ending) (w' : World) : Prop :=
  e = .returned (.int .i64 (lineF p ws).1) ∧ ∃ c' s', c'.g = c.g ∧ c'.W = c.W ∧ c'.mb = c.mb ∧ c'.fb = c.fb ∧ c'.kl = c.kl ∧ ToldAs c' (lineF p ws).2 (n + 1) ∧ RSS c' s' w'
theorem ToldAs.next {c : RC} {p : PSt} {n : Nat} (h : ToldAs c p n) : ToldAs c p (n + 1) := ⟨h.m, h.kn, h.wt, h.lk, by have := h.many; omega, h.small.mono (by omega)⟩
theorem bare_lens {c : RC} {p : PSt} {n : Nat} (h : ToldAs c p n) : p.m.devs = c.m.devs ∧ p.m.pts = c.m.pts ∧ p.m.css.length = c.m.css.length ∧ p.m.efs.length = c.m.efs.length := by
  rw [← h.m]
  exact ⟨rfl, rfl, by simp [Mat.bare], by simp [Mat.bare]⟩
theorem lineF_no {p : PSt} {x : ByteArray} {t : List ByteArray} (h : countB x (t.length + 1) = false) : lineF p (x :: t) = (81, p) := by
  unfold lineF
  simp only
  rw [if_neg (by rw [h]; decide)]
theorem lineF_yes {p : PSt} {x : ByteArray} {t : List ByteArray} (h : countB x (t.length + 1) = true) : lineF p (x :: t) = (codeOf (stepF p x t).2 (decide (RightP (sofarM (stepF p x t).1.m (stepF p x t).1.wt (stepF p x t).1.lk))), (stepF p x t).1) := by
  unfold lineF
  simp only
  rw [if_pos h]
/-- a line of a form that is read: its end -/
theorem after_known {c : RC} {p : PSt} {n : Nat} {x : ByteArray} {t : List ByteArray} (hc : countB x (t.length + 1) = true) {e : Ending} {w' : World}
    (h : ∃ c' s' b, e = .returned (.int .i64 (codeOf s' b)) ∧ (b = true ↔ RightP (sofarM c'.m c'.wt c'.lk)) ∧ (c'.g = c.g ∧ c'.W = c.W ∧ c'.mb = c.mb ∧ c'.fb = c.fb ∧ c'.kl = c.kl ∧ s' = (stepF p x t).2 ∧ ToldAs c' (stepF p x t).1 (n + 1)) ∧ RSS c' s' w') : After c p n (x :: t) e w' := by
  obtain ⟨c', s', b, rfl, hb, ⟨h1, h2, h3, h4, h5, rfl, hT⟩, hr⟩ := h
  unfold After
  rw [lineF_yes hc]
  refine ⟨?_, c', _, h1, h2, h3, h4, h5, hT, hr⟩
  rw [hT.right] at hb
  have e : b = decide (RightP (sofarM (stepF p x t).1.m (stepF p x t).1.wt (stepF p x t).1.lk)) := by
    cases b with
    | true => exact (decide_eq_true (hb.1 rfl)).symm
    | false => exact (decide_eq_false (fun h => by have := hb.2 h; cases this)).symm
  rw [e]
theorem forms_watch : formsF bWatch = some (formV 5 5 53) := by
  unfold formsF updB
  simp [bWatch, bKey, bDevice, bPoint, bCause, bEffect]
theorem count_watch (n : Nat) : countB bWatch n = decide (5 ≤ n ∧ n ≤ 5) := by
  unfold countB
  simp only [if_true]
  all_goals exact decide_eq_decide.2 (by omega)
theorem forms_key : formsF bKey = some (formV 2 2 54) := by
  unfold formsF updB
  simp [bKey, bDevice, bPoint, bCause, bEffect]
theorem count_key (n : Nat) : countB bKey n = decide (2 ≤ n ∧ n ≤ 2) := by
  unfold countB
  simp only [if_neg (show bKey ≠ bWatch by simp [bKey, bWatch]), if_true]
  all_goals exact decide_eq_decide.2 (by omega)
theorem forms_device : formsF bDevice = some (formV 4 4 55) := by
  unfold formsF updB
  simp [bDevice, bPoint, bCause, bEffect]
theorem count_device (n : Nat) : countB bDevice n = decide (4 ≤ n ∧ n ≤ 4) := by
  unfold countB
  simp only [if_neg (show bDevice ≠ bWatch by simp [bDevice, bWatch]), if_neg (show bDevice ≠ bKey by simp [bDevice, bKey]), if_true]
  all_goals exact decide_eq_decide.2 (by omega)
theorem forms_point : formsF bPoint = some (formV 7 7 56) := by
  unfold formsF updB
  simp [bPoint, bCause, bEffect]
theorem count_point (n : Nat) : countB bPoint n = decide (7 ≤ n ∧ n ≤ 7) := by
  unfold countB
  simp only [if_neg (show bPoint ≠ bWatch by simp [bPoint, bWatch]), if_neg (show bPoint ≠ bKey by simp [bPoint, bKey]), if_neg (show bPoint ≠ bDevice by simp [bPoint, bDevice]), if_true]
  all_goals exact decide_eq_decide.2 (by omega)
theorem forms_cause : formsF bCause = some (formV 6 9 57) := by
  unfold formsF updB
  simp [bCause, bEffect]
theorem count_cause (n : Nat) : countB bCause n = decide (6 ≤ n ∧ n ≤ 9) := by
  unfold countB
  simp only [if_neg (show bCause ≠ bWatch by simp [bCause, bWatch]), if_neg (show bCause ≠ bKey by simp [bCause, bKey]), if_neg (show bCause ≠ bDevice by simp [bCause, bDevice]), if_neg (show bCause ≠ bPoint by simp [bCause, bPoint]), if_true]
  all_goals exact decide_eq_decide.2 (by omega)
theorem forms_effect : formsF bEffect = some (formV 6 13 58) := by
  unfold formsF updB
  simp [bEffect]
theorem count_effect (n : Nat) : countB bEffect n = decide (6 ≤ n ∧ n ≤ 13) := by
  unfold countB
  simp only [if_neg (show bEffect ≠ bWatch by simp [bEffect, bWatch]), if_neg (show bEffect ≠ bKey by simp [bEffect, bKey]), if_neg (show bEffect ≠ bDevice by simp [bEffect, bDevice]), if_neg (show bEffect ≠ bPoint by simp [bEffect, bPoint]), if_neg (show bEffect ≠ bCause by simp [bEffect, bCause]), if_true]
  all_goals exact decide_eq_decide.2 (by omega)
theorem forms_other {x : ByteArray} (h0 : x ≠ bWatch) (h1 : x ≠ bKey) (h2 : x ≠ bDevice) (h3 : x ≠ bPoint) (h4 : x ≠ bCause) (h5 : x ≠ bEffect) : formsF x = none := by
  unfold formsF updB
  simp only [if_neg h0, if_neg h1, if_neg h2, if_neg h3, if_neg h4, if_neg h5]
theorem count_other {x : ByteArray} (n : Nat) (h0 : x ≠ bWatch) (h1 : x ≠ bKey) (h2 : x ≠ bDevice) (h3 : x ≠ bPoint) (h4 : x ≠ bCause) (h5 : x ≠ bEffect) : countB x n = false := by
  unfold countB
  simp only [if_neg h0, if_neg h1, if_neg h2, if_neg h3, if_neg h4, if_neg h5]
theorem step_watch (p : PSt) (t : List ByteArray) : stepF p bWatch t = ({ p with m := { p.m with retries := (watchF p.wt (t, false, false)).1.1, wait := (watchF p.wt (t, false, false)).1.2.1, back := (watchF p.wt (t, false, false)).1.2.2.1, cycle := (watchF p.wt (t, false, false)).1.2.2.2 }, wt := true }, (watchF p.wt (t, false, false)).2) := by
  unfold stepF
  simp only [if_true]
theorem step_key (p : PSt) (t : List ByteArray) : stepF p bKey t = ({ p with m := { p.m with key := (wordF t p.lk).1 }, lk := true }, ((wordF t p.lk).2, p.lk, false)) := by
  unfold stepF
  simp only [if_neg (show bKey ≠ bWatch by simp [bKey, bWatch]), if_true]
theorem step_device (p : PSt) (t : List ByteArray) : stepF p bDevice t = ({ p with m := { p.m with devs := p.m.devs ++ [(deviceF p.kn (t, false, false)).1] }, kn := updK p.kn (deviceF p.kn (t, false, false)).1.name (0, (p.m.devs.length : Int)) }, (deviceF p.kn (t, false, false)).2) := by
  unfold stepF
  simp only [if_neg (show bDevice ≠ bWatch by simp [bDevice, bWatch]), if_neg (show bDevice ≠ bKey by simp [bDevice, bKey]), if_true]
theorem step_point (p : PSt) (t : List ByteArray) : stepF p bPoint t = ({ p with m := { p.m with pts := p.m.pts ++ [(pointF p.kn (t, false, false)).1] }, kn := updK p.kn (pointF p.kn (t, false, false)).1.name (1, (p.m.pts.length : Int)) }, (pointF p.kn (t, false, false)).2) := by
  unfold stepF
  simp only [if_neg (show bPoint ≠ bWatch by simp [bPoint, bWatch]), if_neg (show bPoint ≠ bKey by simp [bPoint, bKey]), if_neg (show bPoint ≠ bDevice by simp [bPoint, bDevice]), if_true]
theorem step_cause (p : PSt) (t : List ByteArray) : stepF p bCause t = ({ p with m := { p.m with css := p.m.css ++ [(causeF p.kn (t, false, false) nilV).1] }, kn := updK p.kn (causeF p.kn (t, false, false) nilV).1.name (2, (p.m.css.length : Int)) }, (causeF p.kn (t, false, false) nilV).2) := by
  unfold stepF
  simp only [if_neg (show bCause ≠ bWatch by simp [bCause, bWatch]), if_neg (show bCause ≠ bKey by simp [bCause, bKey]), if_neg (show bCause ≠ bDevice by simp [bCause, bDevice]), if_neg (show bCause ≠ bPoint by simp [bCause, bPoint]), if_true]
theorem step_effect (p : PSt) (t : List ByteArray) : stepF p bEffect t = ({ p with m := { p.m with efs := p.m.efs ++ [(effectF p.kn (t, false, false) nilV).1] }, kn := updK p.kn (effectF p.kn (t, false, false) nilV).1.name (3, (p.m.efs.length : Int)) }, (effectF p.kn (t, false, false) nilV).2) := by
  unfold stepF
  simp only [if_neg (show bEffect ≠ bWatch by simp [bEffect, bWatch]), if_neg (show bEffect ≠ bKey by simp [bEffect, bKey]), if_neg (show bEffect ≠ bDevice by simp [bEffect, bDevice]), if_neg (show bEffect ≠ bPoint by simp [bEffect, bPoint]), if_neg (show bEffect ≠ bCause by simp [bEffect, bCause])]
theorem tail_fits {x : ByteArray} {t : List ByteArray} (h : Fits (x :: t)) : Fits t := ⟨by have := h.1; simp at this; omega, fun s hs => h.2 s (List.mem_cons_of_mem _ hs)⟩
theorem after_no {c : RC} {s : Row} {p : PSt} {n : Nat} (hT : ToldAs c p n) {ws : List ByteArray} (hl : lineF p ws = (81, p)) {e : Ending} {w' : World} (h : e = .returned (.int .i64 81) ∧ RSS c s w') : After c p n ws e w' := by
  obtain ⟨rfl, hr⟩ := h
  unfold After
  rw [hl]
  exact ⟨rfl, c, s, rfl, rfl, rfl, rfl, rfl, hT.next, hr⟩
set_option maxHeartbeats 1000000 in
set_option maxRecDepth 100000 in
theorem line_watch (c : RC) (s : Row) (w : World) (h : RSS c s w) (p : PSt) (n : Nat) (hT : ToldAs c p n) (hn : n ≤ 100000) (t : List ByteArray) (vw : Value) (hwW : StrsAt c.W (bWatch :: t) vw) (hf : Fits (bWatch :: t)):
    Calls Tryd.prog 32 #[.pointer (some ⟨c.g, 0, none⟩), vw, .map (some c.fb)] w (After c p n (bWatch :: t)) := by
  by_cases hc : countB bWatch (t.length + 1) = true
  · obtain ⟨hl1, hl2, hl3, hl4⟩ := bare_lens hT
    refine (line_known c s w h bWatch t vw hwW (tail_fits hf).1 (by simp [bWatch, ByteArray.size]) c.fb (by obtain ⟨vl, h⟩ := h; exact h.fm.mv) forms_watch (by rw [count_watch, decide_eq_true_eq] at hc; omega) (fun _ _ => rfl)
      (fun c' s' _ => c'.g = c.g ∧ c'.W = c.W ∧ c'.mb = c.mb ∧ c'.fb = c.fb ∧ c'.kl = c.kl ∧ s' = (stepF p bWatch t).2 ∧ ToldAs c' (stepF p bWatch t).1 (n + 1)) (fun w1 h1 => ?_)).mono (fun e w' h => after_known hc h)
    refine (watch_any c (t, false, false) w1 h1 (tail_fits hf)).mono ?_
    rintro e w' ⟨rfl, hr⟩
    have hs := (hT.small).mono (Nat.le_succ n)
    have SM : SmallM { c.m with retries := (watchF c.wt (t, false, false)).1.1, wait := (watchF c.wt (t, false, false)).1.2.1, back := (watchF c.wt (t, false, false)).1.2.2.1, cycle := (watchF c.wt (t, false, false)).1.2.2.2 } (n + 1) := ⟨hs.key, hs.ds, hs.ps, hs.cs, hs.es, hs.len⟩
    refine ⟨rfl, _, _, ?_, hr, fun w'' hb => ?_, ?_⟩
    · rfl
    · rw [step_watch]
      refine ⟨rfl, rfl, rfl, rfl, rfl, ?_, ⟨by rw [hT.wt, ← hT.m]; rfl, hT.kn, rfl, hT.lk, by have := hT.many; show c.N ≤ n + 1; omega, SM⟩⟩
      first | rfl | (rw [hT.kn]; rfl) | (rw [hT.kn]; done) | (rw [hT.wt]) | (rw [hT.lk])
    · exact SM.small (by omega) _ _
  · obtain ⟨vl, hv⟩ := id h
    have hc' : countB bWatch (t.length + 1) = false := by simpa using hc
    refine (line_count c s w h (bWatch :: t) bWatch vw (LawFrame.RowsAt.below hwW hv.old) hf.1 rfl (by simp [bWatch, ByteArray.size]) c.fb hv.fm.mv forms_watch ?_).mono (fun e w' h => after_no hT (lineF_no hc') h)
    rw [count_watch, decide_eq_true_eq] at hc
    simp only [List.length_cons]
    omega
set_option maxHeartbeats 1000000 in
set_option maxRecDepth 100000 in
theorem line_key (c : RC) (s : Row) (w : World) (h : RSS c s w) (p : PSt) (n : Nat) (hT : ToldAs c p n) (hn : n ≤ 100000) (t : List ByteArray) (vw : Value) (hwW : StrsAt c.W (bKey :: t) vw) (hf : Fits (bKey :: t)):
    Calls Tryd.prog 32 #[.pointer (some ⟨c.g, 0, none⟩), vw, .map (some c.fb)] w (After c p n (bKey :: t)) := by
  by_cases hc : countB bKey (t.length + 1) = true
  · obtain ⟨hl1, hl2, hl3, hl4⟩ := bare_lens hT
    refine (line_known c s w h bKey t vw hwW (tail_fits hf).1 (by simp [bKey, ByteArray.size]) c.fb (by obtain ⟨vl, h⟩ := h; exact h.fm.mv) forms_key (by rw [count_key, decide_eq_true_eq] at hc; omega) (fun _ _ => rfl)
      (fun c' s' _ => c'.g = c.g ∧ c'.W = c.W ∧ c'.mb = c.mb ∧ c'.fb = c.fb ∧ c'.kl = c.kl ∧ s' = (stepF p bKey t).2 ∧ ToldAs c' (stepF p bKey t).1 (n + 1)) (fun w1 h1 => ?_)).mono (fun e w' h => after_known hc h)
    refine (key_any c (t, false, false) w1 h1 (tail_fits hf)).mono ?_
    rintro e w' ⟨rfl, hr⟩
    have hs := (hT.small).mono (Nat.le_succ n)
    have SM : SmallM { c.m with key := (wordF t c.lk).1 } (n + 1) := ⟨wordF_size (tail_fits hf).2, hs.ds, hs.ps, hs.cs, hs.es, hs.len⟩
    refine ⟨rfl, _, _, ?_, hr, fun w'' hb => ?_, ?_⟩
    · rfl
    · rw [step_key]
      refine ⟨rfl, rfl, rfl, rfl, rfl, ?_, ⟨by rw [hT.lk, ← hT.m]; rfl, hT.kn, hT.wt, rfl, by have := hT.many; show c.N ≤ n + 1; omega, SM⟩⟩
      first | rfl | (rw [hT.kn]; rfl) | (rw [hT.kn]; done) | (rw [hT.wt]) | (rw [hT.lk])
    · exact SM.small (by omega) _ _
  · obtain ⟨vl, hv⟩ := id h
    have hc' : countB bKey (t.length + 1) = false := by simpa using hc
    refine (line_count c s w h (bKey :: t) bKey vw (LawFrame.RowsAt.below hwW hv.old) hf.1 rfl (by simp [bKey, ByteArray.size]) c.fb hv.fm.mv forms_key ?_).mono (fun e w' h => after_no hT (lineF_no hc') h)
    rw [count_key, decide_eq_true_eq] at hc
    simp only [List.length_cons]
    omega
set_option maxHeartbeats 1000000 in
set_option maxRecDepth 100000 in
theorem line_device (c : RC) (s : Row) (w : World) (h : RSS c s w) (p : PSt) (n : Nat) (hT : ToldAs c p n) (hn : n ≤ 100000) (t : List ByteArray) (vw : Value) (hwW : StrsAt c.W (bDevice :: t) vw) (hf : Fits (bDevice :: t)):
    Calls Tryd.prog 32 #[.pointer (some ⟨c.g, 0, none⟩), vw, .map (some c.fb)] w (After c p n (bDevice :: t)) := by
  by_cases hc : countB bDevice (t.length + 1) = true
  · obtain ⟨hl1, hl2, hl3, hl4⟩ := bare_lens hT
    refine (line_known c s w h bDevice t vw hwW (tail_fits hf).1 (by simp [bDevice, ByteArray.size]) c.fb (by obtain ⟨vl, h⟩ := h; exact h.fm.mv) forms_device (by rw [count_device, decide_eq_true_eq] at hc; omega) (fun _ _ => rfl)
      (fun c' s' _ => c'.g = c.g ∧ c'.W = c.W ∧ c'.mb = c.mb ∧ c'.fb = c.fb ∧ c'.kl = c.kl ∧ s' = (stepF p bDevice t).2 ∧ ToldAs c' (stepF p bDevice t).1 (n + 1)) (fun w1 h1 => ?_)).mono (fun e w' h => after_known hc h)
    refine (device_any c (t, false, false) w1 h1 (tail_fits hf) (by have := hT.many; omega) (by have := hT.small.len; omega)).mono ?_
    rintro e w' ⟨rfl, v, hr⟩
    have hs := (hT.small).mono (Nat.le_succ n)
    have SM : SmallM _ (n + 1) := hT.small.app_ds (x := (deviceF c.kn (t, false, false)).1) (nameS_size (kn := c.kn) (s := (t, false, false)) (tail_fits hf))
    refine ⟨rfl, _, _, ?_, hr, fun w'' hb => ?_, ?_⟩
    · rfl
    · rw [step_device]
      refine ⟨rfl, rfl, rfl, rfl, rfl, ?_, ⟨by rw [← hT.kn, ← hT.m]; rfl, by rw [← hT.kn, hl1]; rfl, hT.wt, hT.lk, by have := hT.many; show c.N + 1 ≤ n + 1; omega, SM⟩⟩
      first | rfl | (rw [hT.kn]; rfl) | (rw [hT.kn]; done) | (rw [hT.wt]) | (rw [hT.lk])
    · exact SM.small (by omega) _ _
  · obtain ⟨vl, hv⟩ := id h
    have hc' : countB bDevice (t.length + 1) = false := by simpa using hc
    refine (line_count c s w h (bDevice :: t) bDevice vw (LawFrame.RowsAt.below hwW hv.old) hf.1 rfl (by simp [bDevice, ByteArray.size]) c.fb hv.fm.mv forms_device ?_).mono (fun e w' h => after_no hT (lineF_no hc') h)
    rw [count_device, decide_eq_true_eq] at hc
    simp only [List.length_cons]
    omega
set_option maxHeartbeats 1000000 in
set_option maxRecDepth 100000 in
theorem line_point (c : RC) (s : Row) (w : World) (h : RSS c s w) (p : PSt) (n : Nat) (hT : ToldAs c p n) (hn : n ≤ 100000) (t : List ByteArray) (vw : Value) (hwW : StrsAt c.W (bPoint :: t) vw) (hf : Fits (bPoint :: t)):
    Calls Tryd.prog 32 #[.pointer (some ⟨c.g, 0, none⟩), vw, .map (some c.fb)] w (After c p n (bPoint :: t)) := by
  by_cases hc : countB bPoint (t.length + 1) = true
  · obtain ⟨hl1, hl2, hl3, hl4⟩ := bare_lens hT
    refine (line_known c s w h bPoint t vw hwW (tail_fits hf).1 (by simp [bPoint, ByteArray.size]) c.fb (by obtain ⟨vl, h⟩ := h; exact h.fm.mv) forms_point (by rw [count_point, decide_eq_true_eq] at hc; omega) (fun _ _ => rfl)
      (fun c' s' _ => c'.g = c.g ∧ c'.W = c.W ∧ c'.mb = c.mb ∧ c'.fb = c.fb ∧ c'.kl = c.kl ∧ s' = (stepF p bPoint t).2 ∧ ToldAs c' (stepF p bPoint t).1 (n + 1)) (fun w1 h1 => ?_)).mono (fun e w' h => after_known hc h)
    refine (point_any c (t, false, false) w1 h1 (tail_fits hf) (by have := hT.many; omega) (by have := hT.small.len; omega)).mono ?_
    rintro e w' ⟨rfl, v, hr⟩
    have hs := (hT.small).mono (Nat.le_succ n)
    have SM : SmallM _ (n + 1) := hT.small.app_ps (x := (pointF c.kn (t, false, false)).1) (nameS_size (kn := c.kn) (s := (t, false, false)) (tail_fits hf))
    refine ⟨rfl, _, _, ?_, hr, fun w'' hb => ?_, ?_⟩
    · rfl
    · rw [step_point]
      refine ⟨rfl, rfl, rfl, rfl, rfl, ?_, ⟨by rw [← hT.kn, ← hT.m]; rfl, by rw [← hT.kn, hl2]; rfl, hT.wt, hT.lk, by have := hT.many; show c.N + 1 ≤ n + 1; omega, SM⟩⟩
      first | rfl | (rw [hT.kn]; rfl) | (rw [hT.kn]; done) | (rw [hT.wt]) | (rw [hT.lk])
    · exact SM.small (by omega) _ _
  · obtain ⟨vl, hv⟩ := id h
    have hc' : countB bPoint (t.length + 1) = false := by simpa using hc
    refine (line_count c s w h (bPoint :: t) bPoint vw (LawFrame.RowsAt.below hwW hv.old) hf.1 rfl (by simp [bPoint, ByteArray.size]) c.fb hv.fm.mv forms_point ?_).mono (fun e w' h => after_no hT (lineF_no hc') h)
    rw [count_point, decide_eq_true_eq] at hc
    simp only [List.length_cons]
    omega
set_option maxHeartbeats 1000000 in
set_option maxRecDepth 100000 in
theorem line_cause (c : RC) (s : Row) (w : World) (h : RSS c s w) (p : PSt) (n : Nat) (hT : ToldAs c p n) (hn : n ≤ 100000) (t : List ByteArray) (vw : Value) (hwW : StrsAt c.W (bCause :: t) vw) (hf : Fits (bCause :: t)):
    Calls Tryd.prog 32 #[.pointer (some ⟨c.g, 0, none⟩), vw, .map (some c.fb)] w (After c p n (bCause :: t)) := by
  by_cases hc : countB bCause (t.length + 1) = true
  · obtain ⟨hl1, hl2, hl3, hl4⟩ := bare_lens hT
    refine (line_known c s w h bCause t vw hwW (tail_fits hf).1 (by simp [bCause, ByteArray.size]) c.fb (by obtain ⟨vl, h⟩ := h; exact h.fm.mv) forms_cause (by rw [count_cause, decide_eq_true_eq] at hc; omega) (fun _ _ => rfl)
      (fun c' s' _ => c'.g = c.g ∧ c'.W = c.W ∧ c'.mb = c.mb ∧ c'.fb = c.fb ∧ c'.kl = c.kl ∧ s' = (stepF p bCause t).2 ∧ ToldAs c' (stepF p bCause t).1 (n + 1)) (fun w1 h1 => ?_)).mono (fun e w' h => after_known hc h)
    refine (cause_any c (t, false, false) w1 h1 (tail_fits hf) (by have := hT.many; omega) (by have := hT.small.len; omega)).mono ?_
    rintro e w' ⟨rfl, v0, v, hr⟩
    have hs := (hT.small).mono (Nat.le_succ n)
    have SM : SmallM _ (n + 1) := hT.small.app_cs (x := (causeF c.kn (t, false, false) v0).1) ⟨nameS_size (kn := c.kn) (s := (t, false, false)) (tail_fits hf), restS_len (numS_fits (lampS_fits (numS_fits (nameS_fits (s := (t, false, false)) (tail_fits hf)))))⟩
    refine ⟨rfl, _, _, ?_, hr, fun w'' hb => ?_, ?_⟩
    · rfl
    · rw [step_cause]
      refine ⟨rfl, rfl, rfl, rfl, rfl, ?_, ⟨by rw [← hT.kn, ← hT.m]; simp only [Mat.bare, List.map_append]; rfl, by rw [← hT.kn, hl3]; rfl, hT.wt, hT.lk, by have := hT.many; show c.N + 1 ≤ n + 1; omega, SM⟩⟩
      first | rfl | (rw [hT.kn]; rfl) | (rw [hT.kn]; done) | (rw [hT.wt]) | (rw [hT.lk])
    · exact SM.small (by omega) _ _
  · obtain ⟨vl, hv⟩ := id h
    have hc' : countB bCause (t.length + 1) = false := by simpa using hc
    refine (line_count c s w h (bCause :: t) bCause vw (LawFrame.RowsAt.below hwW hv.old) hf.1 rfl (by simp [bCause, ByteArray.size]) c.fb hv.fm.mv forms_cause ?_).mono (fun e w' h => after_no hT (lineF_no hc') h)
    rw [count_cause, decide_eq_true_eq] at hc
    simp only [List.length_cons]
    omega
set_option maxHeartbeats 1000000 in
set_option maxRecDepth 100000 in
theorem line_effect (c : RC) (s : Row) (w : World) (h : RSS c s w) (p : PSt) (n : Nat) (hT : ToldAs c p n) (hn : n ≤ 100000) (t : List ByteArray) (vw : Value) (hwW : StrsAt c.W (bEffect :: t) vw) (hf : Fits (bEffect :: t)):
    Calls Tryd.prog 32 #[.pointer (some ⟨c.g, 0, none⟩), vw, .map (some c.fb)] w (After c p n (bEffect :: t)) := by
  by_cases hc : countB bEffect (t.length + 1) = true
  · obtain ⟨hl1, hl2, hl3, hl4⟩ := bare_lens hT
    refine (line_known c s w h bEffect t vw hwW (tail_fits hf).1 (by simp [bEffect, ByteArray.size]) c.fb (by obtain ⟨vl, h⟩ := h; exact h.fm.mv) forms_effect (by rw [count_effect, decide_eq_true_eq] at hc; omega) (fun _ _ => rfl)
      (fun c' s' _ => c'.g = c.g ∧ c'.W = c.W ∧ c'.mb = c.mb ∧ c'.fb = c.fb ∧ c'.kl = c.kl ∧ s' = (stepF p bEffect t).2 ∧ ToldAs c' (stepF p bEffect t).1 (n + 1)) (fun w1 h1 => ?_)).mono (fun e w' h => after_known hc h)
    refine (effect_any c (t, false, false) w1 h1 (tail_fits hf) (by have := hT.many; omega) (by have := hT.small.len; omega)).mono ?_
    rintro e w' ⟨rfl, v0, v, hr⟩
    have hs := (hT.small).mono (Nat.le_succ n)
    have SM : SmallM _ (n + 1) := hT.small.app_es (x := (effectF c.kn (t, false, false) v0).1) ⟨nameS_size (kn := c.kn) (s := (t, false, false)) (tail_fits hf), restS_len (numS_fits (numS_fits (saidS_fits (nameS_fits (s := (t, false, false)) (tail_fits hf)))))⟩
    refine ⟨rfl, _, _, ?_, hr, fun w'' hb => ?_, ?_⟩
    · rfl
    · rw [step_effect]
      refine ⟨rfl, rfl, rfl, rfl, rfl, ?_, ⟨by rw [← hT.kn, ← hT.m]; simp only [Mat.bare, List.map_append]; rfl, by rw [← hT.kn, hl4]; rfl, hT.wt, hT.lk, by have := hT.many; show c.N + 1 ≤ n + 1; omega, SM⟩⟩
      first | rfl | (rw [hT.kn]; rfl) | (rw [hT.kn]; done) | (rw [hT.wt]) | (rw [hT.lk])
    · exact SM.small (by omega) _ _
  · obtain ⟨vl, hv⟩ := id h
    have hc' : countB bEffect (t.length + 1) = false := by simpa using hc
    refine (line_count c s w h (bEffect :: t) bEffect vw (LawFrame.RowsAt.below hwW hv.old) hf.1 rfl (by simp [bEffect, ByteArray.size]) c.fb hv.fm.mv forms_effect ?_).mono (fun e w' h => after_no hT (lineF_no hc') h)
    rw [count_effect, decide_eq_true_eq] at hc
    simp only [List.length_cons]
    omega
/-- any line is read as the plain reader reads it -/
theorem line_told (c : RC) (s : Row) (w : World) (h : RSS c s w) (p : PSt) (n : Nat) (hT : ToldAs c p n) (hn : n ≤ 100000) (ws : List ByteArray) (hne : ws ≠ []) (vw : Value) (hwW : StrsAt c.W ws vw) (hf : Fits ws) :
    Calls Tryd.prog 32 #[.pointer (some ⟨c.g, 0, none⟩), vw, .map (some c.fb)] w (After c p n ws) := by
  obtain ⟨x, t, rfl⟩ : ∃ x t, ws = x :: t := by cases ws with | nil => exact absurd rfl hne | cons x t => exact ⟨x, t, rfl⟩
  by_cases h0 : x = bWatch
  · subst h0
    exact line_watch c s w h p n hT hn t vw hwW hf
  by_cases h1 : x = bKey
  · subst h1
    exact line_key c s w h p n hT hn t vw hwW hf
  by_cases h2 : x = bDevice
  · subst h2
    exact line_device c s w h p n hT hn t vw hwW hf
  by_cases h3 : x = bPoint
  · subst h3
    exact line_point c s w h p n hT hn t vw hwW hf
  by_cases h4 : x = bCause
  · subst h4
    exact line_cause c s w h p n hT hn t vw hwW hf
  by_cases h5 : x = bEffect
  · subst h5
    exact line_effect c s w h p n hT hn t vw hwW hf
  obtain ⟨vl, hv⟩ := id h
  exact (line_unknown c s w h (x :: t) x vw (LawFrame.RowsAt.below hwW hv.old) rfl (hf.2 x (by simp)) c.fb hv.fm.mv (forms_other h0 h1 h2 h3 h4 h5)).mono (fun e w' h => after_no hT (lineF_no (count_other _ h0 h1 h2 h3 h4 h5)) h)
end Go.Proofs.YtckbdnkonccmiaaDoor
