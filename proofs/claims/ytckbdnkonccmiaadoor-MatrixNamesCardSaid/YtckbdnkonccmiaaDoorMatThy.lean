/-
  The plain lines of a matrix.
  The plain theory of a matrix' text: what is printed is read again; what is read is right.
  The lines of a matrix are read one by one.
  All lines of a right matrix are read, in more than one order; what is read is right.
  Texts of lines: what Parse makes of them.
-/
import Derived.Test.YtckbdnkonccmiaaDoorMatWhole
import Derived.Test.YtckbdnkonccmiaaDoorMatPlan
import Derived.Test.YtckbdnkonccmiaaDoorMatParse
namespace Go.Proofs.YtckbdnkonccmiaaDoor
open Go.RowKit
def nameAt (l : List ByteArray) (i : Int) : ByteArray := l.getD i.toNat noW
theorem nameAt_eq {l : List ByteArray} {j : Nat} {s : ByteArray} (h : l[j]? = some s) : nameAt l (j : Int) = s := by
  unfold nameAt
  simp [List.getD_eq_getElem?_getD, h]
def lampW (n : Int) : ByteArray := nameAt [⟨#[97]⟩, ⟨#[109]⟩, ⟨#[114]⟩, ⟨#[102, 49, 97]⟩, ⟨#[102, 50, 109]⟩, ⟨#[102, 51, 97]⟩] (n - 1)
def devW (d : Dev) : List ByteArray := [bDevice, d.name, itoB d.line, itoB d.unit]
def ptW (ds : List ByteArray) (p : Pt) : List ByteArray := [bPoint, p.name, nameAt ds p.dev, itoB p.place, itoB p.trip, itoB p.on, itoB p.off]
def csW (ps : List ByteArray) (c : Cs) : List ByteArray := [bCause, c.name, itoB c.votes, lampW c.lamp, itoB c.limit] ++ c.pts.map (nameAt ps)
def efW (ds cs : List ByteArray) (e : Ef) : List ByteArray := [bEffect, e.name, nameAt ds e.dev, itoB e.place, itoB e.safe] ++ e.cs.map (nameAt cs)
def watchW (m : Mat) : List ByteArray := [bWatch, itoB m.retries, itoB m.wait, itoB m.back, itoB m.cycle]
def keyW (m : Mat) : List ByteArray := [bKey, m.key]
def dsN (m : Mat) : List ByteArray := m.devs.map (fun d : Dev => d.name)
def psN (m : Mat) : List ByteArray := m.pts.map (fun d : Pt => d.name)
def csN (m : Mat) : List ByteArray := m.css.map (fun d : Cs => d.name)
def esN (m : Mat) : List ByteArray := m.efs.map (fun d : Ef => d.name)
def tailOf (m : Mat) : List (List ByteArray) := m.devs.map devW ++ m.pts.map (ptW (dsN m)) ++ m.css.map (csW (psN m)) ++ m.efs.map (efW (dsN m) (csN m))
def linesOf (m : Mat) : List (List ByteArray) := [watchW m, keyW m] ++ tailOf m
def bytesL (ls : List (List ByteArray)) : List (List (List UInt8)) := ls.map (fun ws => ws.map (fun s => s.data.toList))
/-- the text that Print prints -/
def textM (m : Mat) : ByteArray := if RightP m then toB (printL (bytesL (linesOf m))) else noW
end Go.Proofs.YtckbdnkonccmiaaDoor
namespace Go.Proofs.YtckbdnkonccmiaaDoor
open Go.RowKit
/-! ### numerals -/
theorem digit_num {d : Nat} (h : d < 10) : (UInt8.ofNat (48 + d)).toNat = 48 + d := by
  rw [UInt8.toNat_ofNat']
  omega
theorem digit_dig {d : Nat} (h : d < 10) : digB (UInt8.ofNat (48 + d)) = true := by
  unfold digB
  rw [digit_num h]
  simp only [Bool.and_eq_true, decide_eq_true_eq]
  omega
theorem numGo_digits (u : Nat) : u ≤ 100000 → ∀ l : List UInt8, numGo (Lib.decDigits u ++ l) 0 = numGo l (u : Int) := by
  induction u using Nat.strongRecOn with
  | _ u ih =>
    intro h l
    by_cases h1 : u < 10
    · rw [Lib.decDigits_one h1, List.singleton_append, numGo_on (digit_dig h1) (by rw [digit_num h1]; omega), digit_num h1]
      congr 1
      omega
    · have h2 : u % 10 < 10 := by omega
      rw [Lib.decDigits, dif_neg h1, List.append_assoc, ih (u / 10) (by omega) (by omega), List.singleton_append, numGo_on (digit_dig h2) (by rw [digit_num h2]; omega), digit_num h2]
      congr 1
      omega
theorem first_digit (u : Nat) : 1 ≤ u → ∃ c t, Lib.decDigits u = c :: t ∧ c ≠ 48 := by
  induction u using Nat.strongRecOn with
  | _ u ih =>
    intro h
    by_cases h1 : u < 10
    · refine ⟨_, [], Lib.decDigits_one h1, fun e => ?_⟩
      have := congrArg UInt8.toNat e
      rw [digit_num h1] at this
      have h9 : (48 : UInt8).toNat = 48 := rfl
      omega
    · obtain ⟨c, t, e, hc⟩ := ih (u / 10) (by omega) (by omega)
      exact ⟨c, t ++ [UInt8.ofNat (48 + u % 10)], by rw [Lib.decDigits, dif_neg h1, e]; rfl, hc⟩
theorem digits_len : ∀ (k u : Nat), u < 10 ^ (k + 1) → (Lib.decDigits u).length ≤ k + 1
  | 0, u, h => by rw [Lib.decDigits_one (by omega)]; simp
  | k + 1, u, h => by
    by_cases h1 : u < 10
    · rw [Lib.decDigits_one h1]; simp
    · have := digits_len k (u / 10) (by rw [Nat.pow_succ] at h; omega)
      rw [Lib.decDigits, dif_neg h1, List.length_append, List.length_singleton]
      omega
theorem digits_all (u : Nat) : (Lib.decDigits u).all letterB = true := by
  have key : ∀ d, d < 10 → letterB (UInt8.ofNat (48 + d)) = true := by decide
  induction u using Nat.strongRecOn with
  | _ u ih =>
    by_cases h1 : u < 10
    · rw [Lib.decDigits_one h1, List.all_cons, key u h1]; rfl
    · rw [Lib.decDigits, dif_neg h1, List.all_append, ih (u / 10) (by omega), List.all_cons, key _ (by omega)]; rfl
theorem itoB_list {n : Int} (h : 0 ≤ n) : (itoB n).data.toList = Lib.decDigits n.toNat := by
  unfold itoB Lib.itoa
  rw [if_neg (by omega)]
theorem num_itoa {n : Int} (h0 : 0 ≤ n) (h1 : n ≤ 100000) : numO (itoB n) = some n := by
  unfold numO
  rw [itoB_list h0]
  have hg := numGo_digits n.toNat (by omega) []
  rw [List.append_nil] at hg
  have e : numGo [] (n.toNat : Int) = some n := by
    show some (n.toNat : Int) = some n
    congr 1; omega
  by_cases hz : n.toNat = 0
  · rw [hg, e, hz, Lib.decDigits_one (by omega)]
    simp
  · obtain ⟨c, t, ec, hc⟩ := first_digit n.toNat (by omega)
    rw [hg, e, if_neg (by rw [ec]; simp), if_neg (by rw [ec]; simp; intro _; exact hc)]
theorem num_fine {n : Int} (h0 : 0 ≤ n) (h1 : n ≤ 100000) : fineW (itoB n).data.toList := by
  rw [itoB_list h0]
  refine ⟨fun e => ?_, ?_, digits_all _⟩
  · have h2 : (Lib.decDigits n.toNat).length = 0 := by rw [e]; rfl
    rw [Lib.decDigits_length] at h2
    have := Lib.nDigits_pos n.toNat
    omega
  · have := digits_len 15 n.toNat (by omega)
    omega
theorem lamp_read {n : Int} (h0 : 1 ≤ n) (h1 : n ≤ 6) : lampO (lampW n) = some n := by
  have : n = 1 ∨ n = 2 ∨ n = 3 ∨ n = 4 ∨ n = 5 ∨ n = 6 := by omega
  rcases this with rfl | rfl | rfl | rfl | rfl | rfl <;> decide
theorem lamp_fine {n : Int} (h0 : 1 ≤ n) (h1 : n ≤ 6) : fineW (lampW n).data.toList := by
  have : n = 1 ∨ n = 2 ∨ n = 3 ∨ n = 4 ∨ n = 5 ∨ n = 6 := by omega
  rcases this with rfl | rfl | rfl | rfl | rfl | rfl <;> exact ⟨by decide, by decide, by decide⟩
/-! ### words that are taken -/
def unB (kn : Kn) (x : ByteArray) : Bool := if (kn x).isSome = true then true else false
theorem nameS_cons (kn : Kn) (x : ByteArray) (t : List ByteArray) : nameS kn (x :: t, false, false) = (x, t, false, unB kn x) := rfl
theorem numS_cons {n : Int} (h0 : 0 ≤ n) (h1 : n ≤ 100000) (t : List ByteArray) (un : Bool) : numS (itoB n :: t, false, un) = (n, t, false, un) := by
  unfold numS
  simp only
  rw [numF_some (n := n) (by show numO (itoB n) = some n; exact num_itoa h0 h1)]
  rfl
theorem lampS_cons {n : Int} (h0 : 1 ≤ n) (h1 : n ≤ 6) (t : List ByteArray) (un : Bool) : lampS (lampW n :: t, false, un) = (n, t, false, un) := by
  unfold lampS
  simp only
  rw [lampF_some (n := n) (by show lampO (lampW n) = some n; exact lamp_read h0 h1)]
  rfl
theorem saidS_cons (kn : Kn) (kind : Int) (x : ByteArray) (t : List ByteArray) (un : Bool) : saidS kn kind (x :: t, false, un) = (saidV kn kind x, t, false, saidU kn kind x un) := by
  unfold saidS
  simp only
  rw [saidF_cons]
theorem restS_all (kn : Kn) (kind : Int) (ls : List ByteArray) (un : Bool) : restS kn kind (ls, false, un) = ((restGo kn kind ls un).1, [], false, (restGo kn kind ls un).2) := rfl
theorem said_known {kn : Kn} {kind : Int} {x : ByteArray} {j : Int} (h : kn x = some (kind, j)) (un : Bool) : saidV kn kind x = j ∧ saidU kn kind x un = un := by
  unfold saidV saidU
  rw [h]
  simp
theorem restGo_known {kn : Kn} {kind : Int} {f : Int → ByteArray} : ∀ (l : List Int) (un : Bool), (∀ j ∈ l, kn (f j) = some (kind, j)) → restGo kn kind (l.map f) un = (l, un)
  | [], _, _ => rfl
  | j :: l, un, h => by
    obtain ⟨h1, h2⟩ := said_known (h j (by simp)) un
    rw [List.map_cons, restGo, h1, h2, restGo_known l un (fun i hi => h i (by simp [hi]))]
/-! ### what is known -/
structure Knows (m : Mat) (kn : Kn) : Prop where
  ds : ∀ (i : Nat) (x : Dev), m.devs[i]? = some x → kn x.name = some (0, (i : Int))
  ps : ∀ (i : Nat) (x : Pt), m.pts[i]? = some x → kn x.name = some (1, (i : Int))
  cs : ∀ (i : Nat) (x : Cs), m.css[i]? = some x → kn x.name = some (2, (i : Int))
  es : ∀ (i : Nat) (x : Ef), m.efs[i]? = some x → kn x.name = some (3, (i : Int))
  no : ∀ s, s ∉ m.names → kn s = none
theorem mem_names {m : Mat} {s : ByteArray} : s ∈ m.names ↔ (∃ x ∈ m.devs, x.name = s) ∨ (∃ x ∈ m.pts, x.name = s) ∨ (∃ x ∈ m.css, x.name = s) ∨ (∃ x ∈ m.efs, x.name = s) := by
  unfold Mat.names
  simp only [List.mem_append, List.mem_map, or_assoc]
theorem updK_same (kn : Kn) (x : ByteArray) (p : Int × Int) : updK kn x p x = some p := by unfold updK; rw [if_pos rfl]
theorem updK_ne {kn : Kn} {x y : ByteArray} {p : Int × Int} (h : y ≠ x) : updK kn x p y = kn y := by unfold updK; rw [if_neg h]
theorem knows_app {α : Type} {kn : Kn} {l : List α} {f : α → ByteArray} {k : Int} (h : ∀ (i : Nat) (x : α), l[i]? = some x → kn (f x) = some (k, (i : Int))) (x : α) (hx : ∀ y ∈ l, f y ≠ f x) : ∀ (i : Nat) (y : α), (l ++ [x])[i]? = some y → updK kn (f x) (k, (l.length : Int)) (f y) = some (k, (i : Int)) := by
  intro i y hy
  rcases Nat.lt_trichotomy i l.length with h1 | h1 | h1
  · rw [List.getElem?_append_left h1] at hy
    rw [updK_ne (hx y (List.mem_of_getElem? hy)), h i y hy]
  · subst h1
    rw [List.getElem?_append_right (Nat.le_refl _), Nat.sub_self] at hy
    injection hy with hy
    subst hy
    exact updK_same _ _ _
  · rw [List.getElem?_eq_none (by simp; omega)] at hy
    cases hy
theorem knows_same {α : Type} {kn : Kn} {l : List α} {f : α → ByteArray} {k : Int} (h : ∀ (i : Nat) (x : α), l[i]? = some x → kn (f x) = some (k, (i : Int))) {s : ByteArray} {p : Int × Int} (hx : ∀ y ∈ l, f y ≠ s) : ∀ (i : Nat) (y : α), l[i]? = some y → updK kn s p (f y) = some (k, (i : Int)) := by
  intro i y hy
  rw [updK_ne (hx y (List.mem_of_getElem? hy)), h i y hy]
theorem Knows.dev {m : Mat} {kn : Kn} (h : Knows m kn) {x : Dev} (hx : x.name ∉ m.names) : Knows { m with devs := m.devs ++ [x] } (updK kn x.name (0, (m.devs.length : Int))) := by
  rw [mem_names] at hx
  simp only [not_or, not_exists, not_and] at hx
  obtain ⟨h1, h2, h3, h4⟩ := hx
  refine ⟨knows_app h.ds x h1, knows_same h.ps h2, knows_same h.cs h3, knows_same h.es h4, fun s hs => ?_⟩
  rw [mem_names] at hs
  simp only [List.mem_append, List.mem_singleton, not_or, not_exists, not_and] at hs
  obtain ⟨a, b, c, d⟩ := hs
  rw [updK_ne (fun e => a x (.inr rfl) e.symm)]
  exact h.no s (by rw [mem_names]; simp only [not_or, not_exists, not_and]; exact ⟨fun y hy => a y (.inl hy), b, c, d⟩)
theorem Knows.pt {m : Mat} {kn : Kn} (h : Knows m kn) {x : Pt} (hx : x.name ∉ m.names) : Knows { m with pts := m.pts ++ [x] } (updK kn x.name (1, (m.pts.length : Int))) := by
  rw [mem_names] at hx
  simp only [not_or, not_exists, not_and] at hx
  obtain ⟨h1, h2, h3, h4⟩ := hx
  refine ⟨knows_same h.ds h1, knows_app h.ps x h2, knows_same h.cs h3, knows_same h.es h4, fun s hs => ?_⟩
  rw [mem_names] at hs
  simp only [List.mem_append, List.mem_singleton, not_or, not_exists, not_and] at hs
  obtain ⟨a, b, c, d⟩ := hs
  rw [updK_ne (fun e => b x (.inr rfl) e.symm)]
  exact h.no s (by rw [mem_names]; simp only [not_or, not_exists, not_and]; exact ⟨a, fun y hy => b y (.inl hy), c, d⟩)
theorem Knows.cse {m : Mat} {kn : Kn} (h : Knows m kn) {x : Cs} (hx : x.name ∉ m.names) : Knows { m with css := m.css ++ [x] } (updK kn x.name (2, (m.css.length : Int))) := by
  rw [mem_names] at hx
  simp only [not_or, not_exists, not_and] at hx
  obtain ⟨h1, h2, h3, h4⟩ := hx
  refine ⟨knows_same h.ds h1, knows_same h.ps h2, knows_app h.cs x h3, knows_same h.es h4, fun s hs => ?_⟩
  rw [mem_names] at hs
  simp only [List.mem_append, List.mem_singleton, not_or, not_exists, not_and] at hs
  obtain ⟨a, b, c, d⟩ := hs
  rw [updK_ne (fun e => c x (.inr rfl) e.symm)]
  exact h.no s (by rw [mem_names]; simp only [not_or, not_exists, not_and]; exact ⟨a, b, fun y hy => c y (.inl hy), d⟩)
theorem Knows.ef {m : Mat} {kn : Kn} (h : Knows m kn) {x : Ef} (hx : x.name ∉ m.names) : Knows { m with efs := m.efs ++ [x] } (updK kn x.name (3, (m.efs.length : Int))) := by
  rw [mem_names] at hx
  simp only [not_or, not_exists, not_and] at hx
  obtain ⟨h1, h2, h3, h4⟩ := hx
  refine ⟨knows_same h.ds h1, knows_same h.ps h2, knows_same h.cs h3, knows_app h.es x h4, fun s hs => ?_⟩
  rw [mem_names] at hs
  simp only [List.mem_append, List.mem_singleton, not_or, not_exists, not_and] at hs
  obtain ⟨a, b, c, d⟩ := hs
  rw [updK_ne (fun e => d x (.inr rfl) e.symm)]
  exact h.no s (by rw [mem_names]; simp only [not_or, not_exists, not_and]; exact ⟨a, b, c, fun y hy => d y (.inl hy)⟩)
theorem Knows.at_ {α : Type} {kn : Kn} {l : List α} {f : α → ByteArray} {k : Int} (h : ∀ (i : Nat) (x : α), l[i]? = some x → kn (f x) = some (k, (i : Int))) {j : Int} (h0 : 0 ≤ j) (h1 : j < (l.length : Int)) : kn (nameAt (l.map f) j) = some (k, j) := by
  obtain ⟨i, rfl⟩ : ∃ i : Nat, j = (i : Int) := ⟨j.toNat, by omega⟩
  obtain ⟨x, hx⟩ : ∃ x, l[i]? = some x := ⟨_, List.getElem?_eq_getElem (by omega)⟩
  rw [nameAt_eq (s := f x) (by rw [List.getElem?_map, hx]; rfl), h i x hx]
/-! ### names once -/
theorem names_once {l : List ByteArray} (h : namesP l) : l.Nodup ∧ ∀ s ∈ l, wordB s = true := by
  constructor
  · rw [List.Nodup, List.pairwise_iff_getElem]
    intro i j hi hj hij e
    exact (h j l[j] (List.getElem?_eq_getElem hj)).1 i l[i] hij (List.getElem?_eq_getElem hi) e
  · intro s hs
    obtain ⟨i, hi, e⟩ := List.getElem_of_mem hs
    exact (h i s (by rw [List.getElem?_eq_getElem hi, e])).2
theorem names_of {l : List ByteArray} (h : l.Nodup) (hw : ∀ s ∈ l, wordB s = true) : namesP l := by
  intro i s hs
  refine ⟨fun j y hj hy e => ?_, hw s (List.mem_of_getElem? hs)⟩
  obtain ⟨h1, h2⟩ := List.getElem?_eq_some_iff.1 hs
  obtain ⟨h3, h4⟩ := List.getElem?_eq_some_iff.1 hy
  have := List.pairwise_iff_getElem.1 h j i h3 h1 hj
  rw [h2, h4] at this
  exact this e
theorem once_mid {a b : List ByteArray} {x : ByteArray} (h : (a ++ [x] ++ b).Nodup) : x ∉ a ++ b := by
  intro hx
  rw [List.append_assoc, List.singleton_append] at h
  rcases List.mem_append.1 hx with hx | hx
  · exact (List.nodup_append.1 h).2.2 x hx x (by simp) rfl
  · exact (List.nodup_cons.1 (List.nodup_append.1 h).2.1).1 hx
theorem fresh_dev {m : Mat} {x : Dev} {t u v y : Int} {k : ByteArray} (h : RightP ⟨t, u, v, y, k, m.devs ++ [x], m.pts, m.css, m.efs⟩) : x.name ∉ m.names := by
  have h1 := (names_once h.2.2.2.2.2.2).1
  unfold Mat.names at h1 ⊢
  have h2 := once_mid (a := m.devs.map (·.name)) (x := x.name) (b := m.pts.map (·.name) ++ m.css.map (·.name) ++ m.efs.map (·.name)) (by simpa [List.append_assoc] using h1)
  simpa [List.append_assoc] using h2
theorem fresh_pt {m : Mat} {x : Pt} {t u v y : Int} {k : ByteArray} (h : RightP ⟨t, u, v, y, k, m.devs, m.pts ++ [x], m.css, m.efs⟩) : x.name ∉ m.names := by
  have h1 := (names_once h.2.2.2.2.2.2).1
  unfold Mat.names at h1 ⊢
  have h2 := once_mid (a := m.devs.map (·.name) ++ m.pts.map (·.name)) (x := x.name) (b := m.css.map (·.name) ++ m.efs.map (·.name)) (by simpa [List.append_assoc] using h1)
  simpa [List.append_assoc] using h2
theorem fresh_cs {m : Mat} {x : Cs} {t u v y : Int} {k : ByteArray} (h : RightP ⟨t, u, v, y, k, m.devs, m.pts, m.css ++ [x], m.efs⟩) : x.name ∉ m.names := by
  have h1 := (names_once h.2.2.2.2.2.2).1
  unfold Mat.names at h1 ⊢
  have h2 := once_mid (a := m.devs.map (·.name) ++ m.pts.map (·.name) ++ m.css.map (·.name)) (x := x.name) (b := m.efs.map (·.name)) (by simpa [List.append_assoc] using h1)
  simpa [List.append_assoc] using h2
theorem fresh_ef {m : Mat} {x : Ef} {t u v y : Int} {k : ByteArray} (h : RightP ⟨t, u, v, y, k, m.devs, m.pts, m.css, m.efs ++ [x]⟩) : x.name ∉ m.names := by
  have h1 := (names_once h.2.2.2.2.2.2).1
  unfold Mat.names at h1 ⊢
  have h2 := once_mid (a := m.devs.map (·.name) ++ m.pts.map (·.name) ++ m.css.map (·.name) ++ m.efs.map (·.name)) (x := x.name) (b := []) (by simpa [List.append_assoc] using h1)
  simpa [List.append_assoc] using h2
end Go.Proofs.YtckbdnkonccmiaaDoor
namespace Go.Proofs.YtckbdnkonccmiaaDoor
open Go.RowKit
/-! ### the rows of lines -/
theorem dev_row (kn : Kn) {d : Dev} (h : 0 ≤ d.line ∧ d.line ≤ 3) (h2 : 1 ≤ d.unit ∧ d.unit ≤ 247) : deviceF kn ([d.name, itoB d.line, itoB d.unit], false, false) = (d, [], false, unB kn d.name) := by
  unfold deviceF
  simp only [nameS_cons]
  rw [numS_cons (by omega) (by omega)]
  simp only
  rw [numS_cons (by omega) (by omega)]
theorem pt_row {m : Mat} {kn : Kn} (hk : Knows m kn) {i : Nat} {p : Pt} {l : List Pt} (h : ptP l m.devs.length i p) : pointF kn ([p.name, nameAt (dsN m) p.dev, itoB p.place, itoB p.trip, itoB p.on, itoB p.off], false, false) = (p, [], false, unB kn p.name) := by
  obtain ⟨h0, h1, h2, h3, h4, -⟩ := h
  have hs := said_known (Knows.at_ hk.ds h0.1 h0.2) (unB kn p.name)
  unfold pointF
  simp only [nameS_cons]
  rw [saidS_cons]
  unfold dsN
  rw [hs.1, hs.2]
  simp only
  rw [numS_cons (by omega) (by omega)]
  simp only
  rw [numS_cons (by omega) (by omega)]
  simp only
  rw [numS_cons (by omega) (by omega)]
  simp only
  rw [numS_cons (by omega) (by omega)]
theorem someP_range {l : List Int} {most size : Int} (h : someP l most size) : ∀ j ∈ l, 0 ≤ j ∧ j < size := by
  intro j hj
  obtain ⟨i, hi, e⟩ := List.getElem_of_mem hj
  exact (h.2.2 i j (by rw [List.getElem?_eq_getElem hi, e])).1
theorem cs_row {m : Mat} {kn : Kn} (hk : Knows m kn) {i : Nat} {c : Cs} (h : csP m.pts.length i c) : causeF kn ([c.name, itoB c.votes, lampW c.lamp, itoB c.limit] ++ c.pts.map (nameAt (psN m)), false, false) nilV = (bareC c, [], false, unB kn c.name) := by
  obtain ⟨h0, h1, h2, h3⟩ := h
  have hr := someP_range h0
  have hl := h0.2.1
  have hg := restGo_known (kn := kn) (kind := 1) (f := nameAt (psN m)) c.pts (unB kn c.name) (fun j hj => Knows.at_ hk.ps (hr j hj).1 (hr j hj).2)
  unfold causeF
  simp only [List.cons_append, List.nil_append, nameS_cons]
  rw [numS_cons (by omega) (by omega)]
  simp only
  rw [lampS_cons (by omega) (by omega)]
  simp only
  rw [numS_cons (by omega) (by omega)]
  simp only
  rw [restS_all, hg]
  rfl
theorem ef_row {m : Mat} {kn : Kn} (hk : Knows m kn) {i : Nat} {e : Ef} {l : List Ef} (h : efP l m.devs.length m.css.length i e) : effectF kn ([e.name, nameAt (dsN m) e.dev, itoB e.place, itoB e.safe] ++ e.cs.map (nameAt (csN m)), false, false) nilV = (bareE e, [], false, unB kn e.name) := by
  obtain ⟨h0, h1, h2, h3, -⟩ := h
  have hs := said_known (Knows.at_ hk.ds h0.1 h0.2) (unB kn e.name)
  have hr := someP_range h3
  have hg := restGo_known (kn := kn) (kind := 2) (f := nameAt (csN m)) e.cs (unB kn e.name) (fun j hj => Knows.at_ hk.cs (hr j hj).1 (hr j hj).2)
  unfold effectF
  simp only [List.cons_append, List.nil_append, nameS_cons]
  rw [saidS_cons]
  unfold dsN
  rw [hs.1, hs.2]
  simp only
  rw [numS_cons (by omega) (by omega)]
  simp only
  rw [numS_cons (by omega) (by omega)]
  simp only
  rw [restS_all, hg]
  rfl
/-! ### lines -/
theorem code_ok {s : Row} {b : Bool} (h1 : s.2.1 = false) (h2 : s.2.2 = false) (hb : b = true) : codeOf s b = 0 := by
  unfold codeOf
  rw [h1, h2, hb]; rfl
theorem code_name {s : Row} {b : Bool} (h1 : s.2.1 = false) (h2 : s.2.2 = true) : codeOf s b = 82 := by
  unfold codeOf
  rw [h1, h2]; rfl
theorem code_wrong {s : Row} {b : Bool} (h1 : s.2.1 = true) : codeOf s b = 81 := by
  unfold codeOf
  rw [h1]; rfl
theorem unB_no {kn : Kn} {x : ByteArray} (h : kn x = none) : unB kn x = false := by unfold unB; rw [h]; rfl
theorem unB_yes {kn : Kn} {x : ByteArray} {p : Int × Int} (h : kn x = some p) : unB kn x = true := by unfold unB; rw [h]; rfl
theorem read_ok {p q : PSt} {x : ByteArray} {t : List ByteArray} {un : Bool} (hc : countB x (t.length + 1) = true) (hs : stepF p x t = (q, [], false, un)) (hu : un = false) (hr : RightP (sofarM q.m q.wt q.lk)) : lineF p (x :: t) = (0, q) := by
  rw [lineF_yes hc, hs, hu]
  exact Prod.ext (code_ok (s := ([], false, false)) rfl rfl (decide_eq_true hr)) rfl
theorem read_name {p : PSt} {x : ByteArray} {t : List ByteArray} (hc : countB x (t.length + 1) = true) (hs : (stepF p x t).2 = ([], false, true)) : (lineF p (x :: t)).1 = 82 := by
  rw [lineF_yes hc]
  exact code_name (by rw [hs]) (by rw [hs])
theorem read_wrong {p : PSt} {x : ByteArray} {t : List ByteArray} (hc : countB x (t.length + 1) = true) (hs : (stepF p x t).2.2.1 = true) : (lineF p (x :: t)).1 = 81 := by
  rw [lineF_yes hc]
  exact code_wrong hs
def PSt.put (p : PSt) (m : Mat) (x : ByteArray) (q : Int × Int) : PSt := ⟨m, updK p.kn x q, p.wt, p.lk⟩
theorem all_last {α : Type} {p : Nat → α → Prop} {l : List α} {x : α} (h : All p (l ++ [x])) : p l.length x := h l.length x (by rw [List.getElem?_append_right (Nat.le_refl _), Nat.sub_self]; rfl)
theorem rd_dev (p : PSt) (hk : Knows p.m p.kn) (d : Dev) (hr : RightP (sofarM { p.m with devs := p.m.devs ++ [d] } p.wt p.lk)) :
    lineF p (devW d) = (0, p.put { p.m with devs := p.m.devs ++ [d] } d.name (0, (p.m.devs.length : Int))) ∧ Knows { p.m with devs := p.m.devs ++ [d] } (updK p.kn d.name (0, (p.m.devs.length : Int))) := by
  have hx : d.name ∉ p.m.names := fresh_dev hr
  have hp : devP _ _ d := all_last hr.2.2.1.2
  have hrow := dev_row p.kn hp.1 hp.2.1
  have hs : stepF p bDevice [d.name, itoB d.line, itoB d.unit] = (p.put { p.m with devs := p.m.devs ++ [d] } d.name (0, (p.m.devs.length : Int)), [], false, unB p.kn d.name) := by
    rw [step_device, hrow]; rfl
  refine ⟨?_, hk.dev hx⟩
  unfold devW
  exact read_ok (by rw [count_device]; rfl) hs (unB_no (hk.no _ hx)) hr
theorem rd_pt (p : PSt) (hk : Knows p.m p.kn) (x : Pt) (hr : RightP (sofarM { p.m with pts := p.m.pts ++ [x] } p.wt p.lk)) :
    lineF p (ptW (dsN p.m) x) = (0, p.put { p.m with pts := p.m.pts ++ [x] } x.name (1, (p.m.pts.length : Int))) ∧ Knows { p.m with pts := p.m.pts ++ [x] } (updK p.kn x.name (1, (p.m.pts.length : Int))) := by
  have hx : x.name ∉ p.m.names := fresh_pt hr
  have hp : ptP _ _ _ x := all_last hr.2.2.2.1.2
  have hrow := pt_row hk hp
  have hs : stepF p bPoint [x.name, nameAt (dsN p.m) x.dev, itoB x.place, itoB x.trip, itoB x.on, itoB x.off] = (p.put { p.m with pts := p.m.pts ++ [x] } x.name (1, (p.m.pts.length : Int)), [], false, unB p.kn x.name) := by
    rw [step_point, hrow]; rfl
  refine ⟨?_, hk.pt hx⟩
  unfold ptW
  exact read_ok (by rw [count_point]; rfl) hs (unB_no (hk.no _ hx)) hr
theorem rd_cs (p : PSt) (hk : Knows p.m p.kn) (x : Cs) (hr : RightP (sofarM { p.m with css := p.m.css ++ [bareC x] } p.wt p.lk)) :
    lineF p (csW (psN p.m) x) = (0, p.put { p.m with css := p.m.css ++ [bareC x] } x.name (2, (p.m.css.length : Int))) ∧ Knows { p.m with css := p.m.css ++ [bareC x] } (updK p.kn x.name (2, (p.m.css.length : Int))) := by
  have hx : (bareC x).name ∉ p.m.names := fresh_cs hr
  have hp : csP _ _ (bareC x) := all_last hr.2.2.2.2.1.2
  have hrow := cs_row hk hp
  have hs : stepF p bCause ([x.name, itoB x.votes, lampW x.lamp, itoB x.limit] ++ x.pts.map (nameAt (psN p.m))) = (p.put { p.m with css := p.m.css ++ [bareC x] } x.name (2, (p.m.css.length : Int)), [], false, unB p.kn x.name) := by
    rw [step_cause]
    have e : causeF p.kn ([x.name, itoB x.votes, lampW x.lamp, itoB x.limit] ++ x.pts.map (nameAt (psN p.m)), false, false) nilV = (bareC x, [], false, unB p.kn x.name) := hrow
    rw [e]; rfl
  have hl := hp.1.2.1
  have hl1 := hp.1.1
  have hl' : (x.pts.length : Int) ≤ 4 := hl
  have hl1' : 1 ≤ (x.pts.length : Int) := hl1
  refine ⟨?_, hk.cse hx⟩
  show lineF p (bCause :: ([x.name, itoB x.votes, lampW x.lamp, itoB x.limit] ++ x.pts.map (nameAt (psN p.m)))) = _
  exact read_ok (by rw [count_cause, decide_eq_true_eq]; simp; omega) hs (unB_no (hk.no _ hx)) hr
theorem rd_ef (p : PSt) (hk : Knows p.m p.kn) (x : Ef) (hr : RightP (sofarM { p.m with efs := p.m.efs ++ [bareE x] } p.wt p.lk)) :
    lineF p (efW (dsN p.m) (csN p.m) x) = (0, p.put { p.m with efs := p.m.efs ++ [bareE x] } x.name (3, (p.m.efs.length : Int))) ∧ Knows { p.m with efs := p.m.efs ++ [bareE x] } (updK p.kn x.name (3, (p.m.efs.length : Int))) := by
  have hx : (bareE x).name ∉ p.m.names := fresh_ef hr
  have hp : efP _ _ _ _ (bareE x) := all_last hr.2.2.2.2.2.1.2
  have hrow := ef_row hk hp
  have hs : stepF p bEffect ([x.name, nameAt (dsN p.m) x.dev, itoB x.place, itoB x.safe] ++ x.cs.map (nameAt (csN p.m))) = (p.put { p.m with efs := p.m.efs ++ [bareE x] } x.name (3, (p.m.efs.length : Int)), [], false, unB p.kn x.name) := by
    rw [step_effect]
    have e : effectF p.kn ([x.name, nameAt (dsN p.m) x.dev, itoB x.place, itoB x.safe] ++ x.cs.map (nameAt (csN p.m)), false, false) nilV = (bareE x, [], false, unB p.kn x.name) := hrow
    rw [e]; rfl
  have hl' : (x.cs.length : Int) ≤ 8 := hp.2.2.2.1.2.1
  have hl1' : 1 ≤ (x.cs.length : Int) := hp.2.2.2.1.1
  refine ⟨?_, hk.ef hx⟩
  show lineF p (bEffect :: ([x.name, nameAt (dsN p.m) x.dev, itoB x.place, itoB x.safe] ++ x.cs.map (nameAt (csN p.m)))) = _
  exact read_ok (by rw [count_effect, decide_eq_true_eq]; simp; omega) hs (unB_no (hk.no _ hx)) hr
def timesM (m n : Mat) : Mat := { m with retries := n.retries, wait := n.wait, back := n.back, cycle := n.cycle }
theorem watch_row {m : Mat} (h : timesP m) : watchF false ([itoB m.retries, itoB m.wait, itoB m.back, itoB m.cycle], false, false) = ((m.retries, m.wait, m.back, m.cycle), [], false, false) := by
  unfold timesP at h
  unfold watchF
  simp only
  rw [numS_cons (by omega) (by omega)]
  simp only
  rw [numS_cons (by omega) (by omega)]
  simp only
  rw [numS_cons (by omega) (by omega)]
  simp only
  rw [numS_cons (by omega) (by omega)]
theorem rd_watch (p : PSt) (m : Mat) (hw : p.wt = false) (ht : timesP m) (hr : RightP (sofarM (timesM p.m m) true p.lk)) : lineF p (watchW m) = (0, ⟨timesM p.m m, p.kn, true, p.lk⟩) := by
  have hs : stepF p bWatch [itoB m.retries, itoB m.wait, itoB m.back, itoB m.cycle] = (⟨timesM p.m m, p.kn, true, p.lk⟩, [], false, false) := by
    rw [step_watch, hw, watch_row ht]; rfl
  unfold watchW
  exact read_ok (by rw [count_watch]; rfl) hs rfl hr
theorem rd_key (p : PSt) (m : Mat) (hl : p.lk = false) (hr : RightP (sofarM { p.m with key := m.key } p.wt true)) : lineF p (keyW m) = (0, ⟨{ p.m with key := m.key }, p.kn, p.wt, true⟩) := by
  have hs : stepF p bKey [m.key] = (⟨{ p.m with key := m.key }, p.kn, p.wt, true⟩, [], false, false) := by
    rw [step_key, hl]; rfl
  unfold keyW
  exact read_ok (by rw [count_key]; rfl) hs rfl hr
/-! ### lines told twice -/
theorem numF_wrong (ls : List ByteArray) : numF ls true = (0, ls, true) := by
  rw [numF_none (by show numO noW = none; decide)]
  unfold wordF
  rw [if_pos rfl]
theorem numS_wrong (ls : List ByteArray) (un : Bool) : numS (ls, true, un) = (0, ls, true, un) := by
  unfold numS
  simp only
  rw [numF_wrong]
theorem tw_watch (p : PSt) (m : Mat) (hw : p.wt = true) : (lineF p (watchW m)).1 = 81 := by
  unfold watchW
  refine read_wrong (by rw [count_watch]; rfl) ?_
  rw [step_watch, hw]
  unfold watchF
  simp only [numS_wrong]
theorem tw_key (p : PSt) (m : Mat) (hl : p.lk = true) : (lineF p (keyW m)).1 = 81 := by
  unfold keyW
  refine read_wrong (by rw [count_key]; rfl) ?_
  rw [step_key]
  exact hl
theorem tw_dev (p : PSt) {d : Dev} {i : Nat} {l : List Dev} (hd : devP l i d) {q : Int × Int} (hq : p.kn d.name = some q) : (lineF p (devW d)).1 = 82 := by
  unfold devW
  exact read_name (by rw [count_device]; rfl) (by rw [step_device, dev_row p.kn hd.1 hd.2.1, unB_yes hq])
theorem tw_pt (p : PSt) (hk : Knows p.m p.kn) {x : Pt} {i : Nat} {l : List Pt} (hd : ptP l p.m.devs.length i x) {q : Int × Int} (hq : p.kn x.name = some q) : (lineF p (ptW (dsN p.m) x)).1 = 82 := by
  unfold ptW
  exact read_name (by rw [count_point]; rfl) (by rw [step_point, pt_row hk hd, unB_yes hq])
theorem tw_cs (p : PSt) (hk : Knows p.m p.kn) {x : Cs} {i : Nat} (hd : csP p.m.pts.length i x) {q : Int × Int} (hq : p.kn x.name = some q) : (lineF p (csW (psN p.m) x)).1 = 82 := by
  have hl' := hd.1.2.1
  have hl1' := hd.1.1
  show (lineF p (bCause :: ([x.name, itoB x.votes, lampW x.lamp, itoB x.limit] ++ x.pts.map (nameAt (psN p.m))))).1 = _
  exact read_name (by rw [count_cause, decide_eq_true_eq]; simp; omega) (by rw [step_cause, cs_row hk hd, unB_yes hq])
theorem tw_ef (p : PSt) (hk : Knows p.m p.kn) {x : Ef} {i : Nat} {l : List Ef} (hd : efP l p.m.devs.length p.m.css.length i x) {q : Int × Int} (hq : p.kn x.name = some q) : (lineF p (efW (dsN p.m) (csN p.m) x)).1 = 82 := by
  have hl' := hd.2.2.2.1.2.1
  have hl1' := hd.2.2.2.1.1
  show (lineF p (bEffect :: ([x.name, nameAt (dsN p.m) x.dev, itoB x.place, itoB x.safe] ++ x.cs.map (nameAt (csN p.m))))).1 = _
  exact read_name (by rw [count_effect, decide_eq_true_eq]; simp; omega) (by rw [step_effect, ef_row hk hd, unB_yes hq])
end Go.Proofs.YtckbdnkonccmiaaDoor
namespace Go.Proofs.YtckbdnkonccmiaaDoor
open Go.RowKit
/-! ### a right matrix' beginnings are right -/
theorem all_take {α : Type} {p q : Nat → α → Prop} {l : List α} (k : Nat) (h : All p l) (hpq : ∀ i x, p i x → q i x) : All q (l.take k) := by
  intro i x hx
  rw [List.getElem?_take] at hx
  split at hx
  · exact hpq i x (h i x hx)
  · cases hx
theorem fresh_take {α : Type} {same : α → α → Prop} {l : List α} {x : α} {i : Nat} (k : Nat) (h : Fresh same l x i) : Fresh same (l.take k) x i := by
  intro j y hj hy
  rw [List.getElem?_take] at hy
  split at hy
  · exact h j y hj hy
  · cases hy
theorem right_part {m : Mat} (h : RightP m) (a b c d : Nat) (hb : b = 0 ∨ m.devs.length ≤ a) (hc : c = 0 ∨ m.pts.length ≤ b) (hd : d = 0 ∨ (m.devs.length ≤ a ∧ m.css.length ≤ c)) {m' : Mat} (ht : timesP m') (hk : keyB m'.key = true)
    (e1 : m'.devs = m.devs.take a) (e2 : m'.pts = m.pts.take b) (e3 : m'.css = (m.css.take c).map bareC) (e4 : m'.efs = (m.efs.take d).map bareE) : RightP m' := by
  obtain ⟨-, -, h1, h2, h3, h4, h5⟩ := h
  refine ⟨ht, hk, ?_, ?_, ?_, ?_, ?_⟩
  · rw [e1]
    exact ⟨Nat.le_trans (by rw [List.length_take]; omega) h1.1, all_take a h1.2 (fun i x hx => ⟨hx.1, hx.2.1, fresh_take a hx.2.2⟩)⟩
  · rw [e1, e2]
    rcases hb with rfl | hb
    · exact ⟨Nat.zero_le _, fun i x hx => by simp at hx⟩
    · rw [List.take_of_length_le hb]
      exact ⟨Nat.le_trans (by rw [List.length_take]; omega) h2.1, all_take b h2.2 (fun i x hx => ⟨hx.1, hx.2.1, hx.2.2.1, hx.2.2.2.1, hx.2.2.2.2.1, fresh_take b hx.2.2.2.2.2⟩)⟩
  · rw [e2, e3, cssP_bare]
    rcases hc with rfl | hc
    · exact ⟨Nat.zero_le _, fun i x hx => by simp at hx⟩
    · rw [List.take_of_length_le hc]
      exact ⟨Nat.le_trans (by rw [List.length_take]; omega) h3.1, all_take c h3.2 (fun i x hx => hx)⟩
  · rw [e1, e3, e4, efsP_bare, List.length_map]
    rcases hd with rfl | ⟨hd1, hd2⟩
    · exact ⟨Nat.zero_le _, fun i x hx => by simp at hx⟩
    · rw [List.take_of_length_le hd1, List.take_of_length_le hd2]
      exact ⟨Nat.le_trans (by rw [List.length_take]; omega) h4.1, all_take d h4.2 (fun i x hx => ⟨hx.1, hx.2.1, hx.2.2.1, hx.2.2.2.1, fresh_take d hx.2.2.2.2⟩)⟩
  · obtain ⟨n1, n2⟩ := names_once h5
    have hs : List.Sublist m'.names m.names := by
      unfold Mat.names
      rw [e1, e2, e3, e4, List.map_map, List.map_map]
      exact ((((List.take_sublist a m.devs).map (fun x : Dev => x.name)).append ((List.take_sublist b m.pts).map (fun x : Pt => x.name))).append ((List.take_sublist c m.css).map (fun x : Cs => x.name))).append ((List.take_sublist d m.efs).map (fun x : Ef => x.name))
    exact names_of (n1.sublist hs) (fun s hs' => n2 s (hs.subset hs'))
theorem right_so {m : Mat} (h : RightP m) (a b c d : Nat) (hb : b = 0 ∨ m.devs.length ≤ a) (hc : c = 0 ∨ m.pts.length ≤ b) (hd : d = 0 ∨ (m.devs.length ≤ a ∧ m.css.length ≤ c)) {m' : Mat} {wt lk : Bool} (ht : wt = true → m'.retries = m.retries ∧ m'.wait = m.wait ∧ m'.back = m.back ∧ m'.cycle = m.cycle) (hk : lk = true → m'.key = m.key)
    (e1 : m'.devs = m.devs.take a) (e2 : m'.pts = m.pts.take b) (e3 : m'.css = (m.css.take c).map bareC) (e4 : m'.efs = (m.efs.take d).map bareE) : RightP (sofarM m' wt lk) := by
  refine right_part h a b c d hb hc hd ?_ ?_ e1 e2 e3 e4
  · cases wt with
    | true =>
      obtain ⟨t1, t2, t3, t4⟩ := ht rfl
      have := h.1
      unfold timesP at this ⊢
      unfold sofarM
      simp only [if_true]
      rw [t1, t2, t3, t4]
      exact this
    | false =>
      unfold timesP sofarM
      simp
  · cases lk with
    | true =>
      unfold sofarM
      simp only [if_true]
      rw [hk rfl]
      exact h.2.1
    | false => exact (by decide : keyB zeroKey = true)
/-! ### runs -/
def okRun : PSt → List (List ByteArray) → Option PSt
  | p, [] => some p
  | p, ws :: r => if (lineF p ws).1 = 0 then okRun (lineF p ws).2 r else none
theorem okRun_append (b : List (List ByteArray)) : ∀ (a : List (List ByteArray)) (p : PSt), okRun p (a ++ b) = (okRun p a).bind (fun q => okRun q b)
  | [], _ => rfl
  | ws :: a, p => by
    rw [List.cons_append, okRun, okRun]
    split
    · exact okRun_append b a _
    · rfl
theorem okRun_cons {p q : PSt} {ws : List ByteArray} {r : List (List ByteArray)} (h : lineF p ws = (0, q)) : okRun p (ws :: r) = okRun q r := by
  rw [okRun, if_pos (by rw [h]), h]
theorem okRun_runF : ∀ (L : List (Int × List ByteArray)) (p q : PSt), okRun p (L.map (·.2)) = some q → runF p L = .inr q
  | [], p, q, h => by
    injection h with h
    subst h; rfl
  | x :: L, p, q, h => by
    rw [List.map_cons, okRun] at h
    split at h
    · rename_i h0
      rw [runF, if_pos h0]
      exact okRun_runF L _ q h
    · cases h
theorem run_devs : ∀ (l : List Dev) (p : PSt), Knows p.m p.kn → (∀ k, k < l.length → RightP (sofarM { p.m with devs := p.m.devs ++ l.take (k + 1) } p.wt p.lk)) → ∃ kn', okRun p (l.map devW) = some ⟨{ p.m with devs := p.m.devs ++ l }, kn', p.wt, p.lk⟩ ∧ Knows { p.m with devs := p.m.devs ++ l } kn'
  | [], p, hk, _ => ⟨p.kn, by rw [List.append_nil]; rfl, by rw [List.append_nil]; exact hk⟩
  | d :: l, p, hk, h => by
    obtain ⟨h1, h2⟩ := rd_dev p hk d (h 0 (by simp))
    obtain ⟨kn', h3, h4⟩ := run_devs l (p.put { p.m with devs := p.m.devs ++ [d] } d.name (0, (p.m.devs.length : Int))) h2 (fun k hk => by
      have := h (k + 1) (by simp; omega)
      rw [List.take_succ_cons] at this
      show RightP (sofarM { p.m with devs := (p.m.devs ++ [d]) ++ l.take (k + 1) } p.wt p.lk)
      rw [List.append_assoc]
      exact this)
    refine ⟨kn', ?_, ?_⟩
    · rw [List.map_cons, okRun_cons h1, h3]
      show some (⟨{ p.m with devs := (p.m.devs ++ [d]) ++ l }, kn', p.wt, p.lk⟩ : PSt) = _
      rw [List.append_assoc]; rfl
    · have h5 : Knows { p.m with devs := (p.m.devs ++ [d]) ++ l } kn' := h4
      rw [List.append_assoc] at h5
      exact h5
theorem run_pts : ∀ (l : List Pt) (p : PSt), Knows p.m p.kn → (∀ k, k < l.length → RightP (sofarM { p.m with pts := p.m.pts ++ l.take (k + 1) } p.wt p.lk)) → ∃ kn', okRun p (l.map (ptW (dsN p.m))) = some ⟨{ p.m with pts := p.m.pts ++ l }, kn', p.wt, p.lk⟩ ∧ Knows { p.m with pts := p.m.pts ++ l } kn'
  | [], p, hk, _ => ⟨p.kn, by rw [List.append_nil]; rfl, by rw [List.append_nil]; exact hk⟩
  | d :: l, p, hk, h => by
    obtain ⟨h1, h2⟩ := rd_pt p hk d (h 0 (by simp))
    obtain ⟨kn', h3, h4⟩ := run_pts l (p.put { p.m with pts := p.m.pts ++ [d] } d.name (1, (p.m.pts.length : Int))) h2 (fun k hk => by
      have := h (k + 1) (by simp; omega)
      rw [List.take_succ_cons] at this
      show RightP (sofarM { p.m with pts := (p.m.pts ++ [d]) ++ l.take (k + 1) } p.wt p.lk)
      rw [List.append_assoc]
      exact this)
    refine ⟨kn', ?_, ?_⟩
    · have h6 : okRun (p.put { p.m with pts := p.m.pts ++ [d] } d.name (1, (p.m.pts.length : Int))) (l.map (ptW (dsN p.m))) = _ := h3
      rw [List.map_cons, okRun_cons h1, h6]
      show some (⟨{ p.m with pts := (p.m.pts ++ [d]) ++ l }, kn', p.wt, p.lk⟩ : PSt) = _
      rw [List.append_assoc]; rfl
    · have h5 : Knows { p.m with pts := (p.m.pts ++ [d]) ++ l } kn' := h4
      rw [List.append_assoc] at h5
      exact h5
theorem run_css : ∀ (l : List Cs) (p : PSt), Knows p.m p.kn → (∀ k, k < l.length → RightP (sofarM { p.m with css := p.m.css ++ (l.take (k + 1)).map bareC } p.wt p.lk)) → ∃ kn', okRun p (l.map (csW (psN p.m))) = some ⟨{ p.m with css := p.m.css ++ l.map bareC }, kn', p.wt, p.lk⟩ ∧ Knows { p.m with css := p.m.css ++ l.map bareC } kn'
  | [], p, hk, _ => ⟨p.kn, by simp only [List.map_nil, List.append_nil]; rfl, by simp only [List.map_nil, List.append_nil]; exact hk⟩
  | d :: l, p, hk, h => by
    obtain ⟨h1, h2⟩ := rd_cs p hk d (h 0 (by simp))
    obtain ⟨kn', h3, h4⟩ := run_css l (p.put { p.m with css := p.m.css ++ [bareC d] } d.name (2, (p.m.css.length : Int))) h2 (fun k hk => by
      have := h (k + 1) (by simp; omega)
      rw [List.take_succ_cons, List.map_cons] at this
      show RightP (sofarM { p.m with css := (p.m.css ++ [bareC d]) ++ (l.take (k + 1)).map bareC } p.wt p.lk)
      rw [List.append_assoc]
      exact this)
    refine ⟨kn', ?_, ?_⟩
    · have h6 : okRun (p.put { p.m with css := p.m.css ++ [bareC d] } d.name (2, (p.m.css.length : Int))) (l.map (csW (psN p.m))) = _ := h3
      rw [List.map_cons, okRun_cons h1, h6]
      show some (⟨{ p.m with css := (p.m.css ++ [bareC d]) ++ l.map bareC }, kn', p.wt, p.lk⟩ : PSt) = _
      rw [List.append_assoc]; rfl
    · have h5 : Knows { p.m with css := (p.m.css ++ [bareC d]) ++ l.map bareC } kn' := h4
      rw [List.append_assoc] at h5
      exact h5
theorem run_efs : ∀ (l : List Ef) (p : PSt), Knows p.m p.kn → (∀ k, k < l.length → RightP (sofarM { p.m with efs := p.m.efs ++ (l.take (k + 1)).map bareE } p.wt p.lk)) → ∃ kn', okRun p (l.map (efW (dsN p.m) (csN p.m))) = some ⟨{ p.m with efs := p.m.efs ++ l.map bareE }, kn', p.wt, p.lk⟩ ∧ Knows { p.m with efs := p.m.efs ++ l.map bareE } kn'
  | [], p, hk, _ => ⟨p.kn, by simp only [List.map_nil, List.append_nil]; rfl, by simp only [List.map_nil, List.append_nil]; exact hk⟩
  | d :: l, p, hk, h => by
    obtain ⟨h1, h2⟩ := rd_ef p hk d (h 0 (by simp))
    obtain ⟨kn', h3, h4⟩ := run_efs l (p.put { p.m with efs := p.m.efs ++ [bareE d] } d.name (3, (p.m.efs.length : Int))) h2 (fun k hk => by
      have := h (k + 1) (by simp; omega)
      rw [List.take_succ_cons, List.map_cons] at this
      show RightP (sofarM { p.m with efs := (p.m.efs ++ [bareE d]) ++ (l.take (k + 1)).map bareE } p.wt p.lk)
      rw [List.append_assoc]
      exact this)
    refine ⟨kn', ?_, ?_⟩
    · have h6 : okRun (p.put { p.m with efs := p.m.efs ++ [bareE d] } d.name (3, (p.m.efs.length : Int))) (l.map (efW (dsN p.m) (csN p.m))) = _ := h3
      rw [List.map_cons, okRun_cons h1, h6]
      show some (⟨{ p.m with efs := (p.m.efs ++ [bareE d]) ++ l.map bareE }, kn', p.wt, p.lk⟩ : PSt) = _
      rw [List.append_assoc]; rfl
    · have h5 : Knows { p.m with efs := (p.m.efs ++ [bareE d]) ++ l.map bareE } kn' := h4
      rw [List.append_assoc] at h5
      exact h5
theorem csN_bare (m : Mat) : m.css.map (fun d : Cs => d.name) = (m.css.map bareC).map (fun d : Cs => d.name) := by rw [List.map_map]; rfl
/-- from the a-th device on -/
theorem run_tail {m : Mat} (h : RightP m) (a : Nat) (kn : Kn) (hk : Knows ⟨m.retries, m.wait, m.back, m.cycle, m.key, m.devs.take a, [], [], []⟩ kn) :
    ∃ kn', okRun ⟨⟨m.retries, m.wait, m.back, m.cycle, m.key, m.devs.take a, [], [], []⟩, kn, true, true⟩ ((m.devs.drop a).map devW ++ m.pts.map (ptW (dsN m)) ++ m.css.map (csW (psN m)) ++ m.efs.map (efW (dsN m) (csN m))) = some ⟨m.bare, kn', true, true⟩ ∧ Knows m.bare kn' := by
  have eta : m.devs.take a ++ m.devs.drop a = m.devs := List.take_append_drop a m.devs
  obtain ⟨k1, r1, h1⟩ := run_devs (m.devs.drop a) ⟨⟨m.retries, m.wait, m.back, m.cycle, m.key, m.devs.take a, [], [], []⟩, kn, true, true⟩ hk (fun k _ => by
    refine right_so h (a + (k + 1)) 0 0 0 (.inl rfl) (.inl rfl) (.inl rfl) (fun _ => ⟨rfl, rfl, rfl, rfl⟩) (fun _ => rfl) ?_ rfl rfl rfl
    show m.devs.take a ++ (m.devs.drop a).take (k + 1) = m.devs.take (a + (k + 1))
    exact List.take_add.symm)
  simp only at r1 h1
  rw [eta] at r1 h1
  obtain ⟨k2, r2, h2⟩ := run_pts m.pts ⟨⟨m.retries, m.wait, m.back, m.cycle, m.key, m.devs, [], [], []⟩, k1, true, true⟩ h1 (fun k _ => right_so h m.devs.length (k + 1) 0 0 (.inr (Nat.le_refl _)) (.inl rfl) (.inl rfl) (fun _ => ⟨rfl, rfl, rfl, rfl⟩) (fun _ => rfl) (by rw [List.take_length]) rfl rfl rfl)
  simp only [List.nil_append] at r2 h2
  obtain ⟨k3, r3, h3⟩ := run_css m.css ⟨⟨m.retries, m.wait, m.back, m.cycle, m.key, m.devs, m.pts, [], []⟩, k2, true, true⟩ h2 (fun k _ => right_so h m.devs.length m.pts.length (k + 1) 0 (.inr (Nat.le_refl _)) (.inr (Nat.le_refl _)) (.inl rfl) (fun _ => ⟨rfl, rfl, rfl, rfl⟩) (fun _ => rfl) (by rw [List.take_length]) (by rw [List.take_length]) rfl rfl)
  simp only [List.nil_append] at r3 h3
  obtain ⟨k4, r4, h4⟩ := run_efs m.efs ⟨⟨m.retries, m.wait, m.back, m.cycle, m.key, m.devs, m.pts, m.css.map bareC, []⟩, k3, true, true⟩ h3 (fun k _ => right_so h m.devs.length m.pts.length m.css.length (k + 1) (.inr (Nat.le_refl _)) (.inr (Nat.le_refl _)) (.inr ⟨Nat.le_refl _, Nat.le_refl _⟩) (fun _ => ⟨rfl, rfl, rfl, rfl⟩) (fun _ => rfl) (by rw [List.take_length]) (by rw [List.take_length]) (by rw [List.take_length]) rfl)
  simp only [List.nil_append] at r4 h4
  refine ⟨k4, ?_, h4⟩
  rw [okRun_append, okRun_append, okRun_append, r1, Option.bind_some]
  have r2' : okRun ⟨⟨m.retries, m.wait, m.back, m.cycle, m.key, m.devs, [], [], []⟩, k1, true, true⟩ (m.pts.map (ptW (dsN m))) = _ := r2
  rw [r2', Option.bind_some]
  have r3' : okRun ⟨⟨m.retries, m.wait, m.back, m.cycle, m.key, m.devs, m.pts, [], []⟩, k2, true, true⟩ (m.css.map (csW (psN m))) = _ := r3
  rw [r3', Option.bind_some]
  have e4 : csN m = (m.css.map bareC).map (fun d : Cs => d.name) := csN_bare m
  rw [e4]
  exact r4
theorem knows_zero (t u v y : Int) (k : ByteArray) : Knows ⟨t, u, v, y, k, [], [], [], []⟩ (fun _ => none) :=
  ⟨fun i x hx => by simp at hx, fun i x hx => by simp at hx, fun i x hx => by simp at hx, fun i x hx => by simp at hx, fun _ _ => rfl⟩
theorem Knows.times {m m' : Mat} {kn : Kn} (h : Knows m kn) (e1 : m'.devs = m.devs) (e2 : m'.pts = m.pts) (e3 : m'.css = m.css) (e4 : m'.efs = m.efs) : Knows m' kn := by
  have en : m'.names = m.names := by unfold Mat.names; rw [e1, e2, e3, e4]
  exact ⟨by rw [e1]; exact h.ds, by rw [e2]; exact h.ps, by rw [e3]; exact h.cs, by rw [e4]; exact h.es, by rw [en]; exact h.no⟩
/-- the first line, then the key's -/
theorem run_head {m : Mat} (h : RightP m) : okRun startP [watchW m] = some ⟨⟨m.retries, m.wait, m.back, m.cycle, noW, [], [], [], []⟩, fun _ => none, true, false⟩ ∧ okRun startP [watchW m, keyW m] = some ⟨⟨m.retries, m.wait, m.back, m.cycle, m.key, [], [], [], []⟩, fun _ => none, true, true⟩ := by
  have h1 := rd_watch startP m rfl h.1 (right_so h 0 0 0 0 (.inl rfl) (.inl rfl) (.inl rfl) (fun _ => ⟨rfl, rfl, rfl, rfl⟩) (fun e => (by cases e)) rfl rfl rfl rfl)
  have h2 := rd_key ⟨timesM startP.m m, startP.kn, true, startP.lk⟩ m rfl (right_so h 0 0 0 0 (.inl rfl) (.inl rfl) (.inl rfl) (fun _ => ⟨rfl, rfl, rfl, rfl⟩) (fun _ => rfl) rfl rfl rfl rfl)
  exact ⟨by rw [okRun_cons h1]; rfl, by rw [okRun_cons h1, okRun_cons h2]; rfl⟩
theorem run_swapped {m : Mat} (h : RightP m) : okRun startP [keyW m, watchW m] = some ⟨⟨m.retries, m.wait, m.back, m.cycle, m.key, [], [], [], []⟩, fun _ => none, true, true⟩ := by
  have h2 := rd_key startP m rfl (right_so h 0 0 0 0 (.inl rfl) (.inl rfl) (.inl rfl) (fun e => (by cases e)) (fun _ => rfl) rfl rfl rfl rfl)
  have h1 := rd_watch ⟨{ startP.m with key := m.key }, startP.kn, startP.wt, true⟩ m rfl h.1 (right_so h 0 0 0 0 (.inl rfl) (.inl rfl) (.inl rfl) (fun _ => ⟨rfl, rfl, rfl, rfl⟩) (fun _ => rfl) rfl rfl rfl rfl)
  rw [okRun_cons h2, okRun_cons h1]; rfl
/-- a device's line ahead of both -/
theorem run_first {m : Mat} (h : RightP m) {d : Dev} {r : List Dev} (hd : m.devs = d :: r) : ∃ kn, okRun startP [devW d, watchW m, keyW m] = some ⟨⟨m.retries, m.wait, m.back, m.cycle, m.key, [d], [], [], []⟩, kn, true, true⟩ ∧ Knows ⟨m.retries, m.wait, m.back, m.cycle, m.key, [d], [], [], []⟩ kn := by
  have e1 : [d] = m.devs.take 1 := by rw [hd]; rfl
  obtain ⟨h0, hk⟩ := rd_dev startP (knows_zero _ _ _ _ _) d (right_so h 1 0 0 0 (.inl rfl) (.inl rfl) (.inl rfl) (fun e => (by cases e)) (fun e => (by cases e)) e1 rfl rfl rfl)
  have h1 := rd_watch (startP.put { startP.m with devs := startP.m.devs ++ [d] } d.name (0, (startP.m.devs.length : Int))) m rfl h.1 (right_so h 1 0 0 0 (.inl rfl) (.inl rfl) (.inl rfl) (fun _ => ⟨rfl, rfl, rfl, rfl⟩) (fun e => (by cases e)) e1 rfl rfl rfl)
  have h2 := rd_key ⟨timesM (startP.put { startP.m with devs := startP.m.devs ++ [d] } d.name (0, (startP.m.devs.length : Int))).m m, (startP.put { startP.m with devs := startP.m.devs ++ [d] } d.name (0, (startP.m.devs.length : Int))).kn, true, false⟩ m rfl (right_so h 1 0 0 0 (.inl rfl) (.inl rfl) (.inl rfl) (fun _ => ⟨rfl, rfl, rfl, rfl⟩) (fun _ => rfl) e1 rfl rfl rfl)
  exact ⟨_, by rw [okRun_cons h0, okRun_cons h1]; exact okRun_cons h2, hk.times rfl rfl rfl rfl⟩
theorem run_whole {m : Mat} (h : RightP m) : ∃ kn, okRun startP (linesOf m) = some ⟨m.bare, kn, true, true⟩ ∧ Knows m.bare kn := by
  obtain ⟨kn, h1, h2⟩ := run_tail h 0 (fun _ => none) (knows_zero _ _ _ _ _)
  refine ⟨kn, ?_, h2⟩
  unfold linesOf tailOf
  rw [okRun_append, (run_head h).2, Option.bind_some]
  exact h1
theorem run_whole2 {m : Mat} (h : RightP m) : ∃ kn, okRun startP ([keyW m, watchW m] ++ tailOf m) = some ⟨m.bare, kn, true, true⟩ := by
  obtain ⟨kn, h1, h2⟩ := run_tail h 0 (fun _ => none) (knows_zero _ _ _ _ _)
  refine ⟨kn, ?_⟩
  unfold tailOf
  rw [okRun_append, run_swapped h, Option.bind_some]
  exact h1
theorem run_whole3 {m : Mat} (h : RightP m) {d : Dev} {r : List Dev} (hd : m.devs = d :: r) : ∃ kn, okRun startP ([devW d, watchW m, keyW m] ++ (tailOf m).drop 1) = some ⟨m.bare, kn, true, true⟩ := by
  obtain ⟨k0, h0, hk⟩ := run_first h hd
  have e1 : [d] = m.devs.take 1 := by rw [hd]; rfl
  rw [e1] at h0 hk
  obtain ⟨kn, h1, h2⟩ := run_tail h 1 k0 hk
  refine ⟨kn, ?_⟩
  rw [okRun_append, h0, Option.bind_some]
  have e : (tailOf m).drop 1 = (m.devs.drop 1).map devW ++ m.pts.map (ptW (dsN m)) ++ m.css.map (csW (psN m)) ++ m.efs.map (efW (dsN m) (csN m)) := by
    unfold tailOf
    rw [hd]; rfl
  rw [e]
  exact h1
theorem no_devs {m : Mat} (h : RightP m) (hd : m.devs = []) : tailOf m = [] := by
  have hp : m.pts = [] := by
    cases e : m.pts with
    | nil => rfl
    | cons x r =>
      have := h.2.2.2.1.2 0 x (by rw [e]; rfl)
      unfold ptP at this
      rw [hd] at this
      simp at this
      omega
  have hc : m.css = [] := by
    cases e : m.css with
    | nil => rfl
    | cons x r =>
      have := (h.2.2.2.2.1.2 0 x (by rw [e]; rfl)).1
      cases e2 : x.pts with
      | nil => have h3 := this.1; rw [e2] at h3; simp at h3
      | cons j t =>
        have h3 := someP_range this j (by rw [e2]; simp)
        rw [hp] at h3
        simp at h3
        omega
  have he : m.efs = [] := by
    cases e : m.efs with
    | nil => rfl
    | cons x r =>
      have := h.2.2.2.2.2.1.2 0 x (by rw [e]; rfl)
      unfold efP at this
      rw [hd] at this
      simp at this
      omega
  unfold tailOf
  rw [hd, hp, hc, he]
  rfl
/-! ### beginnings -/
theorem okRun_take {ls : List (List ByteArray)} {p q : PSt} (h : okRun p ls = some q) (k : Nat) : ∃ q', okRun p (ls.take k) = some q' := by
  rw [← List.take_append_drop k ls, okRun_append] at h
  cases e : okRun p (ls.take k) with
  | none => rw [e] at h; cases h
  | some q' => exact ⟨q', rfl⟩
theorem step_mono (p : PSt) (x : ByteArray) (t : List ByteArray) : (p.wt = true → (stepF p x t).1.wt = true) ∧ (p.lk = true → (stepF p x t).1.lk = true) := by
  unfold stepF
  constructor
  all_goals intro h; simp only; repeat' split
  all_goals first | rfl | exact h
theorem line_mono (p : PSt) (ws : List ByteArray) : (p.wt = true → (lineF p ws).2.wt = true) ∧ (p.lk = true → (lineF p ws).2.lk = true) := by
  unfold lineF
  cases ws with
  | nil => exact ⟨id, id⟩
  | cons x t =>
    simp only
    split
    · exact step_mono p x t
    · exact ⟨id, id⟩
theorem run_mono : ∀ (ls : List (List ByteArray)) (p q : PSt), okRun p ls = some q → (p.wt = true → q.wt = true) ∧ (p.lk = true → q.lk = true)
  | [], p, q, h => by
    injection h with h
    subst h; exact ⟨id, id⟩
  | ws :: ls, p, q, h => by
    rw [okRun] at h
    split at h
    · obtain ⟨h1, h2⟩ := run_mono ls _ q h
      obtain ⟨h3, h4⟩ := line_mono p ws
      exact ⟨fun e => h1 (h3 e), fun e => h2 (h4 e)⟩
    · cases h
/-- the first lines: all right; whole from the second on -/
theorem run_first_lines {m : Mat} (h : RightP m) (k : Nat) : ∃ q, okRun startP ((linesOf m).take k) = some q ∧ ((q.wt = true ∧ q.lk = true) ↔ 2 ≤ k) := by
  obtain ⟨kn, hw, -⟩ := run_whole h
  rcases Nat.lt_or_ge k 2 with h2 | h2
  · rcases (by omega : k = 0 ∨ k = 1) with rfl | rfl
    · exact ⟨startP, rfl, by simp [startP]⟩
    · refine ⟨_, (run_head h).1, by simp⟩
  · obtain ⟨q, hq⟩ := okRun_take hw k
    refine ⟨q, hq, fun _ => h2, fun _ => ?_⟩
    have e : (linesOf m).take k = [watchW m, keyW m] ++ (tailOf m).take (k - 2) := by
      unfold linesOf
      obtain ⟨j, rfl⟩ : ∃ j, k = j + 2 := ⟨k - 2, by omega⟩
      rfl
    rw [e, okRun_append, (run_head h).2, Option.bind_some] at hq
    obtain ⟨h3, h4⟩ := run_mono _ _ _ hq
    exact ⟨h3 rfl, h4 rfl⟩
/-! ### a line told again -/
theorem tail_again {m : Mat} (h : RightP m) (kn : Kn) (hk : Knows m.bare kn) : ∀ ws ∈ tailOf m, (lineF ⟨m.bare, kn, true, true⟩ ws).1 = 82 := by
  have hr := (right_bare m).2 h
  intro ws hws
  unfold tailOf at hws
  rw [List.mem_append, List.mem_append, List.mem_append] at hws
  rcases hws with ((hws | hws) | hws) | hws
  · obtain ⟨x, hx, rfl⟩ := List.mem_map.1 hws
    obtain ⟨i, hi, e⟩ := List.getElem_of_mem hx
    have hx : m.devs[i]? = some x := by rw [List.getElem?_eq_getElem hi, e]
    exact tw_dev ⟨m.bare, kn, true, true⟩ (h.2.2.1.2 i x hx) (hk.ds i x hx)
  · obtain ⟨x, hx, rfl⟩ := List.mem_map.1 hws
    obtain ⟨i, hi, e⟩ := List.getElem_of_mem hx
    have hx : m.pts[i]? = some x := by rw [List.getElem?_eq_getElem hi, e]
    exact tw_pt ⟨m.bare, kn, true, true⟩ hk (h.2.2.2.1.2 i x hx) (hk.ps i x hx)
  · obtain ⟨x, hx, rfl⟩ := List.mem_map.1 hws
    obtain ⟨i, hi, e⟩ := List.getElem_of_mem hx
    have hx : m.css[i]? = some x := by rw [List.getElem?_eq_getElem hi, e]
    have hx2 : m.bare.css[i]? = some (bareC x) := by show (m.css.map bareC)[i]? = _; rw [List.getElem?_map, hx]; rfl
    have hq : kn x.name = some (2, (i : Int)) := hk.cs i (bareC x) hx2
    exact tw_cs ⟨m.bare, kn, true, true⟩ hk (i := i) (x := x) (h.2.2.2.2.1.2 i x hx) hq
  · obtain ⟨x, hx, rfl⟩ := List.mem_map.1 hws
    obtain ⟨i, hi, e⟩ := List.getElem_of_mem hx
    have hx : m.efs[i]? = some x := by rw [List.getElem?_eq_getElem hi, e]
    have hx2 : m.bare.efs[i]? = some (bareE x) := by show (m.efs.map bareE)[i]? = _; rw [List.getElem?_map, hx]; rfl
    have hq : kn x.name = some (3, (i : Int)) := hk.es i (bareE x) hx2
    have h1 := tw_ef (l := m.efs) ⟨m.bare, kn, true, true⟩ hk (i := i) (x := x) (by
      have := h.2.2.2.2.2.1.2 i x hx
      show efP m.efs (m.bare.devs.length) (m.bare.css.length) i x
      have e1 : m.bare.css.length = m.css.length := by unfold Mat.bare; simp
      rw [e1]; exact this) hq
    have e3 : csN m.bare = csN m := by unfold csN Mat.bare; simp only; rw [← csN_bare]
    rw [show csN (PSt.m ⟨m.bare, kn, true, true⟩) = csN m from e3] at h1
    exact h1
end Go.Proofs.YtckbdnkonccmiaaDoor
namespace Go.Proofs.YtckbdnkonccmiaaDoor
open Go.RowKit
/-! ### what is read is right -/
theorem line_right {p : PSt} {ws : List ByteArray} (h : (lineF p ws).1 = 0) : RightP (sofarM (lineF p ws).2.m (lineF p ws).2.wt (lineF p ws).2.lk) := by
  cases ws with
  | nil => exact absurd h (by decide : ¬ (81 : Int) = 0)
  | cons x t =>
    cases hc : countB x (t.length + 1) with
    | false => rw [lineF_no hc] at h; exact absurd h (by decide : ¬ (81 : Int) = 0)
    | true =>
      rw [lineF_yes hc] at h ⊢
      simp only at h ⊢
      unfold codeOf at h
      split at h
      · exact absurd h (by decide)
      · split at h
        · exact absurd h (by decide)
        · split at h
          · rename_i hb
            exact of_decide_eq_true hb
          · exact absurd h (by decide)
theorem run_right : ∀ (L : List (Int × List ByteArray)) (p q : PSt), (p.wt = false ∨ RightP (sofarM p.m p.wt p.lk)) → runF p L = .inr q → q.wt = false ∨ RightP (sofarM q.m q.wt q.lk)
  | [], p, q, hp, h => by
    injection h with h
    subst h; exact hp
  | x :: L, p, q, hp, h => by
    rw [runF] at h
    split at h
    · rename_i h0
      exact run_right L _ q (.inr (line_right h0)) h
    · cases h
theorem sofar_whole (m : Mat) : sofarM m true true = m := rfl
theorem parsed_right {s : List UInt8} {m : Mat} (h : parseF s = .inr m) : RightP m := by
  unfold parseF at h
  split at h
  · cases h
  · split at h
    · cases h
    · rename_i q hq
      split at h
      · rename_i hw
        injection h with h
        subst h
        have := run_right _ startP q (.inl rfl) hq
        rw [hw.1, hw.2, sofar_whole] at this
        rcases this with h1 | h1
        · cases h1
        · exact h1
      · cases h
theorem parsed_cases (s : List UInt8) : (∃ m, parseF s = .inr m ∧ parseO s = (m, 0, 0) ∧ RightP m) ∨ (∃ k no, parseF s = .inl (k, no) ∧ parseO s = (zeroMat, k, no)) := by
  cases h : parseF s with
  | inl e => exact .inr ⟨e.1, e.2, rfl, by unfold parseO; rw [h]⟩
  | inr m => exact .inl ⟨m, rfl, by unfold parseO; rw [h], parsed_right h⟩
theorem run_bad : ∀ (L : List (Int × List ByteArray)) (p : PSt) (e : Int × Int), runF p L = .inl e → e.1 ≠ 0
  | [], p, e, h => by cases h
  | x :: L, p, e, h => by
    rw [runF] at h
    split at h
    · exact run_bad L _ e h
    · rename_i h0
      injection h with h
      subst h; exact h0
theorem parsed_code {s : List UInt8} {e : Int × Int} (h : parseF s = .inl e) : e.1 ≠ 0 := by
  unfold parseF at h
  split at h
  · rename_i e' he
    injection h with h
    subst h
    exact textE_ne (k := e'.1) (no := e'.2) he
  · split at h
    · rename_i e' he
      injection h with h
      subst h
      exact run_bad _ _ _ he
    · split at h
      · cases h
      · injection h with h
        subst h
        decide
/-! ### texts -/
theorem told_words (L : List (Nat × List (List UInt8))) : (toldL L).map (·.2) = (L.map (·.2)).map (fun ws => ws.map toB) := by
  unfold toldL
  rw [List.map_map, List.map_map]
  rfl
theorem words_bytes (ls : List (List ByteArray)) : (bytesL ls).map (fun ws => ws.map toB) = ls := by
  unfold bytesL
  rw [List.map_map]
  have e : ((fun ws : List (List UInt8) => ws.map toB) ∘ fun ws : List ByteArray => ws.map (fun s => s.data.toList)) = id := by
    funext ws
    simp only [Function.comp_apply, List.map_map]
    have f : (toB ∘ fun s : ByteArray => s.data.toList) = id := by funext s; exact toB_of s
    rw [f, List.map_id]; rfl
  rw [e, List.map_id]
theorem parse_ok {s : List UInt8} {ls : List (List ByteArray)} {q : PSt} (hE : textE s = none) (hl : (textL s).map (·.2) = bytesL ls) (hr : okRun startP ls = some q) : parseO s = if q.wt = true ∧ q.lk = true then (q.m, 0, 0) else (zeroMat, 81, 0) := by
  have h := okRun_runF (toldL (textL s)) startP q (by rw [told_words, hl, words_bytes]; exact hr)
  unfold parseO parseF
  rw [hE]
  simp only
  rw [h]
  simp only
  by_cases hw : q.wt = true ∧ q.lk = true
  · rw [if_pos hw, if_pos hw]
  · rw [if_neg hw, if_neg hw]
theorem parse_long {s : List UInt8} (h : 4096 < s.length) : parseO s = (zeroMat, 2, 0) := by
  unfold parseO parseF textE
  rw [if_pos h]
theorem runF_append (b : List (Int × List ByteArray)) : ∀ (a : List (Int × List ByteArray)) (p q : PSt), runF p a = .inr q → runF p (a ++ b) = runF q b
  | [], p, q, h => by injection h with h; subst h; rfl
  | x :: a, p, q, h => by
    rw [runF] at h
    split at h
    · rename_i h0
      rw [List.cons_append, runF, if_pos h0]
      exact runF_append b a _ q h
    · cases h
theorem bytesL_append (a b : List (List ByteArray)) : bytesL (a ++ b) = bytesL a ++ bytesL b := by unfold bytesL; rw [List.map_append]
theorem bytesL_len (a : List (List ByteArray)) : (bytesL a).length = a.length := by unfold bytesL; rw [List.length_map]
theorem number_append {α : Type} : ∀ (a b : List α) (n : Nat), number n (a ++ b) = number n a ++ number (n + a.length) b
  | [], b, n => by simp [number]
  | x :: a, b, n => by
    rw [List.cons_append, number, number, number_append a b (n + 1), List.cons_append, List.length_cons]
    rw [show n + 1 + a.length = n + (a.length + 1) by omega]
/-- lines of words -/
def FineLs (ls : List (List ByteArray)) : Prop := ∀ ws ∈ bytesL ls, fineL ws
theorem FineLs.append {a b : List (List ByteArray)} (ha : FineLs a) (hb : FineLs b) : FineLs (a ++ b) := by
  intro ws hw
  rw [bytesL_append] at hw
  rcases List.mem_append.1 hw with hw | hw
  · exact ha ws hw
  · exact hb ws hw
theorem FineLs.sub {a b : List (List ByteArray)} (h : FineLs b) (hs : ∀ x ∈ a, x ∈ b) : FineLs a := by
  intro ws hw
  unfold bytesL at hw
  obtain ⟨x, hx, rfl⟩ := List.mem_map.1 hw
  exact h _ (List.mem_map_of_mem (hs x hx))
/-- what is printed of lines, and read again -/
theorem parse_print {ls : List (List ByteArray)} (hf : FineLs ls) {q : PSt} (hr : okRun startP ls = some q) (hl : (printL (bytesL ls)).length ≤ 4096) : parseO (printL (bytesL ls)) = if q.wt = true ∧ q.lk = true then (q.m, 0, 0) else (zeroMat, 81, 0) := by
  obtain ⟨h1, h2⟩ := text_print hf
  exact parse_ok (by rw [h1, if_neg (by omega)]) (by rw [h2, number_snd]) hr
/-- one line more, that is wrong -/
theorem parse_more {ls : List (List ByteArray)} {ws : List ByteArray} (hf : FineLs ls) (hw : FineLs [ws]) {q : PSt} (hr : okRun startP ls = some q) {k : Int} (hk : (lineF q ws).1 = k) (h0 : k ≠ 0) (hl : (printL (bytesL (ls ++ [ws]))).length ≤ 4096) : parseO (printL (bytesL (ls ++ [ws]))) = (zeroMat, k, (ls.length : Int) + 1) := by
  obtain ⟨h1, h2⟩ := text_print (hf.append hw)
  rw [if_neg (by omega)] at h1
  have e : toldL (textL (printL (bytesL (ls ++ [ws])))) = toldL (number 1 (bytesL ls)) ++ [(((ls.length + 1 : Nat) : Int), ws)] := by
    rw [h2, bytesL_append, number_append, bytesL_len]
    unfold toldL
    rw [List.map_append]
    congr 1
    have f : ws.map (toB ∘ fun s : ByteArray => s.data.toList) = ws := by
      have g : (toB ∘ fun s : ByteArray => s.data.toList) = id := by funext s; exact toB_of s
      rw [g, List.map_id]
    show [toldOf (1 + ls.length, ws.map (fun s => s.data.toList))] = _
    unfold toldOf
    simp only [List.map_map]
    rw [f, Nat.add_comm]
  have hq := okRun_runF (toldL (number 1 (bytesL ls))) startP q (by rw [told_words, number_snd, words_bytes]; exact hr)
  refine parseO_bad h1 ?_
  rw [e, runF_append _ _ _ q hq, runF, if_neg (by rw [hk]; exact h0), hk]
  rfl
/-! ### the lines of a right matrix are of words -/
theorem fine_of_word {s : ByteArray} (h : wordB s = true) : fineW s.data.toList := word_fine h
theorem key_fine {s : ByteArray} (h : keyB s = true) : fineW s.data.toList := by
  unfold keyB at h
  simp only [Bool.and_eq_true, decide_eq_true_eq] at h
  have hz : s.data.toList.length = s.size := by simp
  refine ⟨fun e => by rw [e] at hz; simp at hz; omega, by omega, ?_⟩
  rw [List.all_eq_true] at h ⊢
  intro c hc
  have := h.2 c hc
  unfold hexB at this
  unfold letterB
  simp only [Bool.or_eq_true, Bool.and_eq_true, decide_eq_true_eq] at this ⊢
  rcases this with ⟨a, b⟩ | ⟨a, b⟩
  · exact .inr ⟨a, b⟩
  · exact .inl ⟨a, UInt8.le_trans b (by decide)⟩
theorem fine_line {ws : List ByteArray} (h0 : ws ≠ []) (h1 : ws.length ≤ 14) (h2 : ∀ s ∈ ws, fineW s.data.toList) : fineL (ws.map (fun s => s.data.toList)) := by
  refine ⟨by simpa using h0, by simpa using h1, fun w hw => ?_⟩
  obtain ⟨s, hs, rfl⟩ := List.mem_map.1 hw
  exact h2 s hs
theorem name_at_mem {l : List ByteArray} {j : Int} (h0 : 0 ≤ j) (h1 : j < (l.length : Int)) : nameAt l j ∈ l := by
  obtain ⟨i, rfl⟩ : ∃ i : Nat, j = (i : Int) := ⟨j.toNat, by omega⟩
  have hi : i < l.length := by omega
  rw [nameAt_eq (List.getElem?_eq_getElem hi)]
  exact List.getElem_mem hi
theorem lines_fine {m : Mat} (h : RightP m) : FineLs (linesOf m) := by
  obtain ⟨ht, hk, hd, hp, hc, he, hn⟩ := h
  have hw := (names_once hn).2
  have wd : ∀ x ∈ m.devs, fineW x.name.data.toList := fun x hx => word_fine (hw _ (mem_names.2 (.inl ⟨x, hx, rfl⟩)))
  have wp : ∀ x ∈ m.pts, fineW x.name.data.toList := fun x hx => word_fine (hw _ (mem_names.2 (.inr (.inl ⟨x, hx, rfl⟩))))
  have wc : ∀ x ∈ m.css, fineW x.name.data.toList := fun x hx => word_fine (hw _ (mem_names.2 (.inr (.inr (.inl ⟨x, hx, rfl⟩)))))
  have we : ∀ x ∈ m.efs, fineW x.name.data.toList := fun x hx => word_fine (hw _ (mem_names.2 (.inr (.inr (.inr ⟨x, hx, rfl⟩)))))
  have nd : ∀ {j : Int}, 0 ≤ j → j < (m.devs.length : Int) → fineW (nameAt (dsN m) j).data.toList := fun h0 h1 => by
    obtain ⟨x, hx, e⟩ := List.mem_map.1 (name_at_mem (l := dsN m) h0 (by unfold dsN; simpa using h1))
    rw [← e]; exact wd x hx
  have np : ∀ {j : Int}, 0 ≤ j → j < (m.pts.length : Int) → fineW (nameAt (psN m) j).data.toList := fun h0 h1 => by
    obtain ⟨x, hx, e⟩ := List.mem_map.1 (name_at_mem (l := psN m) h0 (by unfold psN; simpa using h1))
    rw [← e]; exact wp x hx
  have nc : ∀ {j : Int}, 0 ≤ j → j < (m.css.length : Int) → fineW (nameAt (csN m) j).data.toList := fun h0 h1 => by
    obtain ⟨x, hx, e⟩ := List.mem_map.1 (name_at_mem (l := csN m) h0 (by unfold csN; simpa using h1))
    rw [← e]; exact wc x hx
  have fw : ∀ w ∈ [bWatch, bKey, bDevice, bPoint, bCause, bEffect], fineW w.data.toList := by
    intro w hw
    simp only [List.mem_cons, List.not_mem_nil, or_false] at hw
    rcases hw with rfl | rfl | rfl | rfl | rfl | rfl <;> exact ⟨by decide, by decide, by decide⟩
  unfold timesP at ht
  intro ws hws
  unfold bytesL at hws
  obtain ⟨x, hx, rfl⟩ := List.mem_map.1 hws
  unfold linesOf tailOf at hx
  simp only [List.mem_append, List.mem_cons, List.not_mem_nil, or_false] at hx
  rcases hx with (rfl | rfl) | ((hx | hx) | hx) | hx
  · unfold watchW
    refine fine_line (by simp) (by simp) (fun s hs => ?_)
    simp only [List.mem_cons, List.not_mem_nil, or_false] at hs
    rcases hs with rfl | rfl | rfl | rfl | rfl
    · exact fw _ (by simp)
    all_goals exact num_fine (by omega) (by omega)
  · unfold keyW
    refine fine_line (by simp) (by simp) (fun s hs => ?_)
    simp only [List.mem_cons, List.not_mem_nil, or_false] at hs
    rcases hs with rfl | rfl
    · exact fw _ (by simp)
    · exact key_fine hk
  · obtain ⟨y, hy, rfl⟩ := List.mem_map.1 hx
    obtain ⟨i, hi, e⟩ := List.getElem_of_mem hy
    have hr := hd.2 i y (by rw [List.getElem?_eq_getElem hi, e])
    unfold devP at hr
    unfold devW
    refine fine_line (by simp) (by simp) (fun s hs => ?_)
    simp only [List.mem_cons, List.not_mem_nil, or_false] at hs
    rcases hs with rfl | rfl | rfl | rfl
    · exact fw _ (by simp)
    · exact wd y hy
    all_goals exact num_fine (by omega) (by omega)
  · obtain ⟨y, hy, rfl⟩ := List.mem_map.1 hx
    obtain ⟨i, hi, e⟩ := List.getElem_of_mem hy
    have hr := hp.2 i y (by rw [List.getElem?_eq_getElem hi, e])
    unfold ptP at hr
    unfold ptW
    refine fine_line (by simp) (by simp) (fun s hs => ?_)
    simp only [List.mem_cons, List.not_mem_nil, or_false] at hs
    rcases hs with rfl | rfl | rfl | rfl | rfl | rfl | rfl
    · exact fw _ (by simp)
    · exact wp y hy
    · exact nd hr.1.1 hr.1.2
    all_goals exact num_fine (by omega) (by omega)
  · obtain ⟨y, hy, rfl⟩ := List.mem_map.1 hx
    obtain ⟨i, hi, e⟩ := List.getElem_of_mem hy
    have hr := hc.2 i y (by rw [List.getElem?_eq_getElem hi, e])
    unfold csP at hr
    have hs4 := hr.1.2.1
    have hrg := someP_range hr.1
    unfold csW
    refine fine_line (by simp) (by simp; omega) (fun s hs => ?_)
    simp only [List.mem_append, List.mem_cons, List.not_mem_nil, or_false] at hs
    rcases hs with (rfl | rfl | rfl | rfl | rfl) | hs
    · exact fw _ (by simp)
    · exact wc y hy
    · exact num_fine (by omega) (by omega)
    · exact lamp_fine (by omega) (by omega)
    · exact num_fine (by omega) (by omega)
    · obtain ⟨j, hj, rfl⟩ := List.mem_map.1 hs
      exact np (hrg j hj).1 (hrg j hj).2
  · obtain ⟨y, hy, rfl⟩ := List.mem_map.1 hx
    obtain ⟨i, hi, e⟩ := List.getElem_of_mem hy
    have hr := he.2 i y (by rw [List.getElem?_eq_getElem hi, e])
    unfold efP at hr
    have hs4 := hr.2.2.2.1.2.1
    have hrg := someP_range hr.2.2.2.1
    unfold efW
    refine fine_line (by simp) (by simp; omega) (fun s hs => ?_)
    simp only [List.mem_append, List.mem_cons, List.not_mem_nil, or_false] at hs
    rcases hs with (rfl | rfl | rfl | rfl | rfl) | hs
    · exact fw _ (by simp)
    · exact we y hy
    · exact nd hr.1.1 hr.1.2
    · exact num_fine (by omega) (by omega)
    · exact num_fine (by omega) (by omega)
    · obtain ⟨j, hj, rfl⟩ := List.mem_map.1 hs
      exact nc (hrg j hj).1 (hrg j hj).2
theorem lines_len {m : Mat} (h : RightP m) : (linesOf m).length ≤ 38 ∧ 2 ≤ (linesOf m).length := by
  obtain ⟨ht, hk, hd, hp, hc, he, hn⟩ := h
  have h1 := hd.1
  have h2 := hp.1
  have h3 := hc.1
  have h4 := he.1
  unfold linesOf tailOf
  simp only [List.length_append, List.length_map, List.length_cons, List.length_nil]
  omega
theorem text_len {m : Mat} (h : RightP m) : (printL (bytesL (linesOf m))).length ≤ 10000 := by
  have h1 := fine_len _ (lines_fine h)
  have h2 := lines_len h
  rw [bytesL_len] at h1
  omega
theorem textM_right {m : Mat} (h : RightP m) : textM m = toB (printL (bytesL (linesOf m))) := by unfold textM; rw [if_pos h]
theorem textM_wrong {m : Mat} (h : ¬ RightP m) : textM m = noW := by unfold textM; rw [if_neg h]
theorem textM_some {m : Mat} (h : RightP m) : 1 ≤ (textM m).size := by
  rw [textM_right h, toB_size]
  unfold linesOf bytesL printL
  simp
  omega
theorem text_bare (m : Mat) : textM m.bare = textM m := by
  have e : linesOf m.bare = linesOf m := by
    unfold linesOf tailOf
    have e1 : dsN m.bare = dsN m := rfl
    have e2 : psN m.bare = psN m := rfl
    have e3 : csN m.bare = csN m := by unfold csN Mat.bare; simp only; rw [← csN_bare]
    rw [e1, e2, e3]
    show [watchW m, keyW m] ++ (m.devs.map devW ++ m.pts.map (ptW (dsN m)) ++ (m.css.map bareC).map (csW (psN m)) ++ (m.efs.map bareE).map (efW (dsN m) (csN m))) = _
    rw [List.map_map, List.map_map]
    rfl
  unfold textM
  by_cases h : RightP m
  · rw [if_pos h, if_pos ((right_bare m).2 h), e]
  · rw [if_neg h, if_neg (fun h' => h ((right_bare m).1 h'))]
/-- what is printed of a right matrix is parsed to it, if it is not too long -/
theorem back_print {m : Mat} (h : RightP m) : parseO (textM m).data.toList = if 4096 < (textM m).size then (zeroMat, 2, 0) else (m.bare, 0, 0) := by
  obtain ⟨kn, hr, -⟩ := run_whole h
  rw [textM_right h, toB_list, toB_size]
  split
  · rename_i hl
    exact parse_long hl
  · rename_i hl
    rw [parse_print (lines_fine h) hr (by omega)]
    rw [if_pos ⟨rfl, rfl⟩]
end Go.Proofs.YtckbdnkonccmiaaDoor
