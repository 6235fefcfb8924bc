/-
  Words of a text: what letters and words are, and how texts lie in memory.
-/
import Derived.Test.YtpoihpehdlogbaaDoorMatData
import Derived.Deep.RegionHeldLaw
import Derived.Deep.RegionHeld3
import Derived.Deep.RegionLaw
import Derived.Deep.CondSized
import Derived.Deep.CutBlock
import Derived.Deep.DeepCutAuto
import Derived.Deep.QuietTactic
import Derived.BigQuiet
import Derived.StillTailTactics
import Derived.Maps.OwnSet
import Derived.Laws.Pointers
import Derived.JoinedCond
import Derived.OwnWalk
import Derived.LoopTactic
import Derived.WalkSpells
import Derived.IntWalk
namespace Go.Proofs.YtpoihpehdlogbaaDoor
open Go.RowKit
theorem letterB_iff (c : UInt8) : letterB c = true ↔ (97 ≤ (c.toNat : Int) ∧ (c.toNat : Int) ≤ 122) ∨ (48 ≤ (c.toNat : Int) ∧ (c.toNat : Int) ≤ 57) := by
  unfold letterB
  simp only [Bool.or_eq_true, Bool.and_eq_true, decide_eq_true_eq, UInt8.le_iff_toNat_le]
  simp only [show (97 : UInt8).toNat = 97 from rfl, show (122 : UInt8).toNat = 122 from rfl, show (48 : UInt8).toNat = 48 from rfl, show (57 : UInt8).toNat = 57 from rfl]
  omega
theorem bool_of {b : Bool} {p : Prop} (h : b = true ↔ p) : (p → b = true) ∧ (¬ p → b = false) := ⟨h.2, fun n => by cases b with | false => rfl | true => exact absurd (h.1 rfl) n⟩
theorem bytes_at {s : ByteArray} {k : Nat} {c : UInt8} (h : s.data.toList[k]? = some c) : k < s.size ∧ ∀ (hk : k < s.size), s[k] = c := by
  obtain ⟨hk, he⟩ := List.getElem?_eq_some_iff.1 h
  exact ⟨by simpa using hk, fun _ => by rw [← he]; simp; rfl⟩
theorem index_at {P : Program} {t : TypeId} (ht : P.underlying t = some .string) {s : ByteArray} {k : Nat} {c : UInt8} (h : s.data.toList[k]? = some c) (w : World) :
    (Instr.index t (.string s) (.int .i64 (k : Int))).run P w = .ok (.int .u8 c.toNat) w := by
  obtain ⟨hk, he⟩ := bytes_at h
  rw [run_index_string w t s .i64 _ ht, dif_pos ⟨by omega, by omega⟩]
  have e : ((k : Int)).toNat = k := by omega
  simp only [e]
  rw [he hk]
theorem string_at {s : ByteArray} {k : Nat} (h : k < s.size) : ∃ c, s.data.toList[k]? = some c := ⟨_, List.getElem?_eq_getElem (by simpa using h)⟩
theorem all_no {s : ByteArray} {p : UInt8 → Bool} {k : Nat} {c : UInt8} (h : s.data.toList[k]? = some c) (hp : p c = false) : s.data.toList.all p = false := by
  rw [List.all_eq_false]
  exact ⟨c, List.mem_of_getElem? h, by simp [hp]⟩
theorem all_yes {s : ByteArray} {p : UInt8 → Bool} (h : Upto (fun _ c => p c = true) s.data.toList s.size) : s.data.toList.all p = true := by
  rw [List.all_eq_true]
  intro c hc
  obtain ⟨i, hi⟩ := List.getElem?_of_mem hc
  exact h i c (by have := (List.getElem?_eq_some_iff.1 hi).1; simpa using this) hi
/-- a bool is told, and what lay is left as it was -/
def Tells (p : Prop) (w : World) (e : Ending) (w' : World) : Prop := ∃ b, e = .returned (.bool b) ∧ (b = true ↔ p) ∧ Below w.heap.size w w'
theorem tells_yes {p : Prop} {w w' : World} (h : p) (hb : Below w.heap.size w w') : Tells p w (.returned (.bool true)) w' := ⟨true, rfl, ⟨fun _ => h, fun _ => rfl⟩, hb⟩
theorem tells_no {p : Prop} {w w' : World} (h : ¬ p) (hb : Below w.heap.size w w') : Tells p w (.returned (.bool false)) w' := ⟨false, rfl, ⟨fun e => (by cases e), fun e => absurd e h⟩, hb⟩
theorem below_drewn {B : Nat} {w w' : World} (h : Below B w w') (n : Nat) : Below B w (w'.drewN n) := ⟨h.os, h.tape, h.output, h.size, h.block⟩
/-- the k-th cell of a row of single ones, and where it lies -/
theorem one_at {α : Type} {f : α → List Value} {l : List α} {A : Option Addr} {c : Nat} {w : World} (h : LawFrame.RowsAt w 1 f l (.slice A l.length c)) {k : Nat} {x : α} (hx : l[k]? = some x) : ∃ b off, A = some ⟨b, off, none⟩ ∧ ∀ u, f x = [u] → w.cell? ⟨b, off + k, none⟩ = some u := by
  obtain ⟨b, off, c', hv, -, hc⟩ := h.at_ hx
  injection hv with hA
  refine ⟨b, off, hA, fun u hu => ?_⟩
  have := hc 0 u (by rw [hu]; rfl)
  simpa using this
theorem row_at {α : Type} {f : α → List Value} {m : Nat} {l : List α} {A : Option Addr} {c : Nat} {w : World} (h : LawFrame.RowsAt w m f l (.slice A l.length c)) {k : Nat} {x : α} (hx : l[k]? = some x) : ∃ b off, A = some ⟨b, off, none⟩ ∧ b < w.heap.size ∧ ∀ d u, (f x)[d]? = some u → w.cell? ⟨b, off + k * m + d, none⟩ = some u := by
  obtain ⟨b, off, c', hv, hb, hc⟩ := h.at_ hx
  injection hv with hA
  exact ⟨b, off, hA, hb, hc⟩
theorem bytes_eq (x y : ByteArray) : (x.toList == y.toList) = true ↔ x = y := by
  rw [ByteArray.toList_eq, ByteArray.toList_eq, beq_iff_eq]
  constructor
  · intro h
    cases x with | mk a => cases y with | mk b =>
    congr 1
    exact Array.toList_inj.1 h
  · rintro rfl; rfl
theorem bytes_ne {x y : ByteArray} (h : ¬ x = y) : (x.toList == y.toList) = false := by
  cases e : (x.toList == y.toList) with
  | false => rfl
  | true => exact absurd ((bytes_eq x y).1 e) h
theorem string_info : (Tryd.prog.info? 9).map (fun i => (i.zero, i.size, i.bytes)) = some (some (.string (ByteArray.mk #[])), 1, 16) := by kernel_rfl
theorem string_parts : ∃ i, Tryd.prog.info? 9 = some i ∧ i.zero = some (.string (ByteArray.mk #[])) ∧ i.size = 1 ∧ i.bytes = 16 := by
  have h := string_info
  cases e : Tryd.prog.info? 9 with
  | none => rw [e] at h; cases h
  | some i =>
    rw [e] at h
    simp only [Option.map_some, Option.some.injEq, Prod.mk.injEq] at h
    exact ⟨i, rfl, h.1, h.2.1, h.2.2⟩
theorem reads_str (w : World) (g : Nat) (hg : w.heap.size = g) (x : ByteArray) (t : TypeId) : Words.Reads (w.alloc (.cells #[.string x] t)) (g + 1) 1 (some ⟨g, 0, none⟩) 1 (sC x) := by
  subst hg
  exact LawFrame.reads_block (xs := sC x) (t := t) (heap_alloc_new w _) (by omega) rfl
theorem one_str (x : ByteArray) : ∀ u ∈ sC x, u.oneCell' = true := by
  intro u hu
  simp only [sC, List.mem_singleton] at hu
  subst hu; rfl
theorem own_below {w w' : World} {base : Nat} {e : TypeId} {size n : Nat} {v : Value} {xs : List Value} (h : w.ownsRow base e size v n xs) (hb : Below w.heap.size w w') : w'.ownsRow base e size v n xs := by
  obtain ⟨hl, h⟩ := h
  refine ⟨hl, ?_⟩
  rcases h with h | ⟨g, cap, cur, h1, h2, hg, h3⟩
  · exact .inl h
  · exact .inr ⟨g, cap, cur, h1, h2, (hb.block g (Array.getElem?_eq_some_iff.1 hg).1).trans hg, h3⟩
theorem own_ne {W : World} {base base' size size' n n' : Nat} {e e' : TypeId} {v v' : Value} {xs xs' : List Value} (h : W.ownsRow base e size v n xs) (h' : W.ownsRow base' e' size' v' n' xs') (hne : e ≠ e') : v.ownBlock = none ∨ v.ownBlock ≠ v'.ownBlock := by
  rcases h.2 with ⟨rfl, _⟩ | ⟨g, cap, cur, rfl, _, hg, _⟩
  · exact .inl rfl
  · refine .inr (fun ee => ?_)
    rcases h'.2 with ⟨rfl, _⟩ | ⟨g', cap', cur', rfl, _, hg', _⟩
    · simp [Value.ownBlock] at ee
    · simp only [Value.ownBlock, Option.some.injEq] at ee
      subst ee
      rw [hg] at hg'
      injection hg' with hg'
      injection hg' with _ hg'
      exact hne hg'
theorem own_form {w : World} {base : Nat} {e : TypeId} {size n : Nat} {v : Value} {xs : List Value} (h : w.ownsRow base e size v n xs) : ∃ A c, v = .slice A n c := by
  obtain ⟨-, h⟩ := h
  rcases h with ⟨rfl, rfl⟩ | ⟨g, cap, cur, rfl, -⟩
  · exact ⟨_, _, rfl⟩
  · exact ⟨_, _, rfl⟩
theorem grown_set (W : World) (h j : Nat) (u : Value) : W.grownBy (W.setCell ⟨h, j, none⟩ u) (some h) :=
  ⟨rfl, rfl, rfl, by simp [World.setCell], fun i _ hi => by simp [World.setCell, Array.getElem?_modify]; intro e; exact absurd (by rw [e]) hi⟩
set_option maxRecDepth 100000 in
theorem lletter_any (w : World) (c : UInt8) :
    Calls Tryd.prog 14 #[.int .u8 c.toNat] w fun e w' => e = .returned (.bool (letterB c)) ∧ w = w' := by
  obtain ⟨ht, hf⟩ := bool_of (letterB_iff c)
  have HT := Lib.hid ht
  have HF := Lib.hid hf
  clear ht hf
  generalize (letterB c) = r at *
  generalize (c.toNat : Int) = n at *
  by_cases h0 : 97 ≤ n
  · by_cases h1 : n ≤ 122
    · obtain rfl := HT.out (.inl ⟨h0, h1⟩)
      go_enter Tryd.func14, Tryd.ntmps14
      go_wp2_with fail
      go_ret
      exact ⟨rfl, rfl⟩
    · obtain rfl := HF.out (by omega)
      have h2 : 48 ≤ n := by omega
      have h3 : ¬ n ≤ 57 := by omega
      go_enter Tryd.func14, Tryd.ntmps14
      go_wp2_with fail
      go_ret
      exact ⟨rfl, rfl⟩
  · by_cases h2 : 48 ≤ n
    · by_cases h3 : n ≤ 57
      · obtain rfl := HT.out (.inr ⟨h2, h3⟩)
        go_enter Tryd.func14, Tryd.ntmps14
        go_wp2_with fail
        go_ret
        exact ⟨rfl, rfl⟩
      · obtain rfl := HF.out (by omega)
        go_enter Tryd.func14, Tryd.ntmps14
        go_wp2_with fail
        go_ret
        exact ⟨rfl, rfl⟩
    · obtain rfl := HF.out (by omega)
      go_enter Tryd.func14, Tryd.ntmps14
      go_wp2_with fail
      go_ret
      exact ⟨rfl, rfl⟩
set_option maxRecDepth 100000 in
theorem lWord_any (w : World) (s : ByteArray) (hs : s.size ≤ 1125899906842624) :
    Calls Tryd.prog 9 #[.string s] w fun e w' => e = .returned (.bool (wordB s)) ∧ w = w' := by
  obtain ⟨r, hr⟩ : ∃ r, r = wordB s := ⟨_, rfl⟩
  rw [← hr]
  have HB := Lib.hid hr
  clear hr
  by_cases h1 : (s.size : Int) = 0
  case pos =>
    have HR := Lib.hid (show r = false by rw [HB.out]; unfold wordB; rw [decide_eq_false (p := 1 ≤ s.size) (by omega)]; rfl)
    have h2 : ((s.size : Int) == 0) = true := by simp [h1]
    clear h1
    go_enter Tryd.func9, Tryd.ntmps9
    go_wp2_with fail
    go_ret
    exact ⟨by rw [HR.out]; rfl, rfl⟩
  have h2 : ((s.size : Int) == 0) = false := by rw [beq_eq_false_iff_ne]; exact h1
  by_cases h3 : (s.size : Int) ≤ 16
  case neg =>
    have HR := Lib.hid (show r = false by rw [HB.out]; unfold wordB; rw [decide_eq_false (p := s.size ≤ 16) (by omega)]; simp)
    clear h1
    go_enter Tryd.func9, Tryd.ntmps9
    go_wp2_with fail
    go_ret
    exact ⟨by rw [HR.out]; rfl, rfl⟩
  have HS : Hid (r = s.data.toList.all letterB) := Lib.hid (by rw [HB.out]; unfold wordB; rw [decide_eq_true (p := 1 ≤ s.size) (by omega), decide_eq_true (p := s.size ≤ 16) (by omega)]; rfl)
  clear h1
  go_enter Tryd.func9, Tryd.ntmps9
  go_wp2_with fail
  clear h2 h3
  go_loopw [14] (fun i wr => ∃ k : Nat, k ≤ s.size ∧ i = .int .i64 k ∧ Hid (Upto (fun _ c => letterB c = true) s.data.toList k) ∧ Hid (w = wr)) (fun i _ => s.size - (intOf i).toNat)
  case atStart => exact ⟨0, Nat.zero_le _, rfl, Lib.hid (upto_zero _ _), Lib.hid rfl⟩
  case round =>
    obtain ⟨k, hk, rfl, HU, HW⟩ := hrel
    by_cases hlt : k < s.size
    · obtain ⟨c, hc⟩ := string_at hlt
      have hix := fun w => index_at (P := Tryd.prog) (t := 9) (by go_side) hc w
      have HC := Lib.hid hc
      have hk1 : (k : Int) < (s.size : Int) := by omega
      clear hc
      go_wp2_with fail
      refine (lletter_any _ c).mono ?_
      rintro e w1 ⟨rfl, rfl⟩
      cases hl : letterB c with
      | false =>
        have HR := Lib.hid (show r = false by rw [HS.out, all_no HC.out hl])
        clear hl hix
        go_wp2_with fail
        go_ret
        exact ⟨by rw [HR.out]; rfl, HW.out⟩
      | true =>
        have HL := Lib.hid hl
        clear hl hix
        go_wp2_with fail
        go_roundw
        case rel => exact ⟨k + 1, by omega, by go_num, Lib.hid (upto_step HU.out HC.out HL.out), HW⟩
        case measure => simp [intOf]; omega
    · have hk2 : ¬ (k : Int) < (s.size : Int) := by omega
      have hks : k = s.size := by omega
      have HR := Lib.hid (show r = true by rw [HS.out]; exact all_yes (by rw [← hks]; exact HU.out))
      clear hks
      go_wp2_with fail
      go_ret
      exact ⟨by rw [HR.out]; rfl, HW.out⟩
end Go.Proofs.YtpoihpehdlogbaaDoor
