/-
  Words of a text: what letters and words are, and how texts lie in memory.
  Words of a text, in plain Lean: what is wrong with a line, which words it has, and which lines a text has.
  THE WALK of lex.words: the words of a line, or what is wrong with it, as a panic.
  THE WALK of strings.Cut at a separator of one byte: the text before it, and behind it.
  THE WALK of lex.numbered: the iterator over a text's lines.
  THE WALK of lex.caught's deferred closure: a fault is caught, and told; without a panic nothing turns.
  The lines of a text as they lie in memory; what a round over them leaves.
  THE WALK of lex.Lines: the lines of a text, or what is wrong, and where.
-/
import Derived.Test.YtckbdnkonccmiaaDoorMatData
import Derived.Deep.RegionHeldLaw
import Derived.Deep.RegionHeld3
import Derived.Deep.RegionLaw
import Derived.Deep.CondSized
import Derived.Deep.CutBlock
import Derived.Deep.DeepCutAuto
import Derived.Deep.QuietTactic
import Derived.BigQuiet
import Derived.StillTailTactics
import Derived.Maps.OwnSet
import Derived.Laws.Pointers
import Derived.JoinedCond
import Derived.OwnWalk
import Derived.LoopTactic
import Derived.WalkSpells
import Derived.IntWalk
import Derived.Lib.Fields
import Derived.Lib.IndexMore
import Derived.Test.YtckbdnkonccmiaaDoorShelf
import Derived.WalkLawsBesides
import Derived.Lib.IndexBytes
import Derived.Lib.CutLaws
import Derived.Test.YtckbdnkonccmiaaDoorLexRange
import Derived.Shelf.Abstract
import Derived.Shelf.RegionOpen
import Derived.OwnWalkIn
import Derived.TacticsInMore
import Derived.LoopNIn
import Derived.LoopIn
import Derived.RangeFuncBox
import Derived.RecoverIn
import Derived.Recover
namespace Go.Proofs.YtckbdnkonccmiaaDoor
open Go.RowKit
theorem letterB_iff (c : UInt8) : letterB c = true ↔ (97 ≤ (c.toNat : Int) ∧ (c.toNat : Int) ≤ 122) ∨ (48 ≤ (c.toNat : Int) ∧ (c.toNat : Int) ≤ 57) := by
  unfold letterB
  simp only [Bool.or_eq_true, Bool.and_eq_true, decide_eq_true_eq, UInt8.le_iff_toNat_le]
  simp only [show (97 : UInt8).toNat = 97 from rfl, show (122 : UInt8).toNat = 122 from rfl, show (48 : UInt8).toNat = 48 from rfl, show (57 : UInt8).toNat = 57 from rfl]
  omega
theorem bool_of {b : Bool} {p : Prop} (h : b = true ↔ p) : (p → b = true) ∧ (¬ p → b = false) := ⟨h.2, fun n => by cases b with | false => rfl | true => exact absurd (h.1 rfl) n⟩
theorem bytes_at {s : ByteArray} {k : Nat} {c : UInt8} (h : s.data.toList[k]? = some c) : k < s.size ∧ ∀ (hk : k < s.size), s[k] = c := by
  obtain ⟨hk, he⟩ := List.getElem?_eq_some_iff.1 h
  exact ⟨by simpa using hk, fun _ => by rw [← he]; simp; rfl⟩
theorem index_at {P : Program} {t : TypeId} (ht : P.underlying t = some .string) {s : ByteArray} {k : Nat} {c : UInt8} (h : s.data.toList[k]? = some c) (w : World) :
    (Instr.index t (.string s) (.int .i64 (k : Int))).run P w = .ok (.int .u8 c.toNat) w := by
  obtain ⟨hk, he⟩ := bytes_at h
  rw [run_index_string w t s .i64 _ ht, dif_pos ⟨by omega, by omega⟩]
  have e : ((k : Int)).toNat = k := by omega
  simp only [e]
  rw [he hk]
theorem string_at {s : ByteArray} {k : Nat} (h : k < s.size) : ∃ c, s.data.toList[k]? = some c := ⟨_, List.getElem?_eq_getElem (by simpa using h)⟩
theorem all_no {s : ByteArray} {p : UInt8 → Bool} {k : Nat} {c : UInt8} (h : s.data.toList[k]? = some c) (hp : p c = false) : s.data.toList.all p = false := by
  rw [List.all_eq_false]
  exact ⟨c, List.mem_of_getElem? h, by simp [hp]⟩
theorem all_yes {s : ByteArray} {p : UInt8 → Bool} (h : Upto (fun _ c => p c = true) s.data.toList s.size) : s.data.toList.all p = true := by
  rw [List.all_eq_true]
  intro c hc
  obtain ⟨i, hi⟩ := List.getElem?_of_mem hc
  exact h i c (by have := (List.getElem?_eq_some_iff.1 hi).1; simpa using this) hi
/-- a bool is told, and what lay is left as it was -/
def Tells (p : Prop) (w : World) (e : Ending) (w' : World) : Prop := ∃ b, e = .returned (.bool b) ∧ (b = true ↔ p) ∧ Below w.heap.size w w'
theorem tells_yes {p : Prop} {w w' : World} (h : p) (hb : Below w.heap.size w w') : Tells p w (.returned (.bool true)) w' := ⟨true, rfl, ⟨fun _ => h, fun _ => rfl⟩, hb⟩
theorem tells_no {p : Prop} {w w' : World} (h : ¬ p) (hb : Below w.heap.size w w') : Tells p w (.returned (.bool false)) w' := ⟨false, rfl, ⟨fun e => (by cases e), fun e => absurd e h⟩, hb⟩
theorem below_drewn {B : Nat} {w w' : World} (h : Below B w w') (n : Nat) : Below B w (w'.drewN n) := ⟨h.os, h.tape, h.output, h.size, h.block⟩
/-- the k-th cell of a row of single ones, and where it lies -/
theorem one_at {α : Type} {f : α → List Value} {l : List α} {A : Option Addr} {c : Nat} {w : World} (h : LawFrame.RowsAt w 1 f l (.slice A l.length c)) {k : Nat} {x : α} (hx : l[k]? = some x) : ∃ b off, A = some ⟨b, off, none⟩ ∧ ∀ u, f x = [u] → w.cell? ⟨b, off + k, none⟩ = some u := by
  obtain ⟨b, off, c', hv, -, hc⟩ := h.at_ hx
  injection hv with hA
  refine ⟨b, off, hA, fun u hu => ?_⟩
  have := hc 0 u (by rw [hu]; rfl)
  simpa using this
theorem row_at {α : Type} {f : α → List Value} {m : Nat} {l : List α} {A : Option Addr} {c : Nat} {w : World} (h : LawFrame.RowsAt w m f l (.slice A l.length c)) {k : Nat} {x : α} (hx : l[k]? = some x) : ∃ b off, A = some ⟨b, off, none⟩ ∧ b < w.heap.size ∧ ∀ d u, (f x)[d]? = some u → w.cell? ⟨b, off + k * m + d, none⟩ = some u := by
  obtain ⟨b, off, c', hv, hb, hc⟩ := h.at_ hx
  injection hv with hA
  exact ⟨b, off, hA, hb, hc⟩
theorem bytes_eq (x y : ByteArray) : (x.toList == y.toList) = true ↔ x = y := by
  rw [ByteArray.toList_eq, ByteArray.toList_eq, beq_iff_eq]
  constructor
  · intro h
    cases x with | mk a => cases y with | mk b =>
    congr 1
    exact Array.toList_inj.1 h
  · rintro rfl; rfl
theorem bytes_ne {x y : ByteArray} (h : ¬ x = y) : (x.toList == y.toList) = false := by
  cases e : (x.toList == y.toList) with
  | false => rfl
  | true => exact absurd ((bytes_eq x y).1 e) h
theorem string_info : (Tryd.prog.info? 9).map (fun i => (i.zero, i.size, i.bytes)) = some (some (.string (ByteArray.mk #[])), 1, 16) := by kernel_rfl
theorem string_parts : ∃ i, Tryd.prog.info? 9 = some i ∧ i.zero = some (.string (ByteArray.mk #[])) ∧ i.size = 1 ∧ i.bytes = 16 := by
  have h := string_info
  cases e : Tryd.prog.info? 9 with
  | none => rw [e] at h; cases h
  | some i =>
    rw [e] at h
    simp only [Option.map_some, Option.some.injEq, Prod.mk.injEq] at h
    exact ⟨i, rfl, h.1, h.2.1, h.2.2⟩
theorem reads_str (w : World) (g : Nat) (hg : w.heap.size = g) (x : ByteArray) (t : TypeId) : Words.Reads (w.alloc (.cells #[.string x] t)) (g + 1) 1 (some ⟨g, 0, none⟩) 1 (sC x) := by
  subst hg
  exact LawFrame.reads_block (xs := sC x) (t := t) (heap_alloc_new w _) (by omega) rfl
theorem one_str (x : ByteArray) : ∀ u ∈ sC x, u.oneCell' = true := by
  intro u hu
  simp only [sC, List.mem_singleton] at hu
  subst hu; rfl
theorem own_below {w w' : World} {base : Nat} {e : TypeId} {size n : Nat} {v : Value} {xs : List Value} (h : w.ownsRow base e size v n xs) (hb : Below w.heap.size w w') : w'.ownsRow base e size v n xs := by
  obtain ⟨hl, h⟩ := h
  refine ⟨hl, ?_⟩
  rcases h with h | ⟨g, cap, cur, h1, h2, hg, h3⟩
  · exact .inl h
  · exact .inr ⟨g, cap, cur, h1, h2, (hb.block g (Array.getElem?_eq_some_iff.1 hg).1).trans hg, h3⟩
theorem own_ne {W : World} {base base' size size' n n' : Nat} {e e' : TypeId} {v v' : Value} {xs xs' : List Value} (h : W.ownsRow base e size v n xs) (h' : W.ownsRow base' e' size' v' n' xs') (hne : e ≠ e') : v.ownBlock = none ∨ v.ownBlock ≠ v'.ownBlock := by
  rcases h.2 with ⟨rfl, _⟩ | ⟨g, cap, cur, rfl, _, hg, _⟩
  · exact .inl rfl
  · refine .inr (fun ee => ?_)
    rcases h'.2 with ⟨rfl, _⟩ | ⟨g', cap', cur', rfl, _, hg', _⟩
    · simp [Value.ownBlock] at ee
    · simp only [Value.ownBlock, Option.some.injEq] at ee
      subst ee
      rw [hg] at hg'
      injection hg' with hg'
      injection hg' with _ hg'
      exact hne hg'
theorem own_form {w : World} {base : Nat} {e : TypeId} {size n : Nat} {v : Value} {xs : List Value} (h : w.ownsRow base e size v n xs) : ∃ A c, v = .slice A n c := by
  obtain ⟨-, h⟩ := h
  rcases h with ⟨rfl, rfl⟩ | ⟨g, cap, cur, rfl, -⟩
  · exact ⟨_, _, rfl⟩
  · exact ⟨_, _, rfl⟩
theorem grown_set (W : World) (h j : Nat) (u : Value) : W.grownBy (W.setCell ⟨h, j, none⟩ u) (some h) :=
  ⟨rfl, rfl, rfl, by simp [World.setCell], fun i _ hi => by simp [World.setCell, Array.getElem?_modify]; intro e; exact absurd (by rw [e]) hi⟩
set_option maxRecDepth 100000 in
theorem lletter_any (w : World) (c : UInt8) :
    Calls Tryd.prog 63 #[.int .u8 c.toNat] w fun e w' => e = .returned (.bool (letterB c)) ∧ w = w' := by
  obtain ⟨ht, hf⟩ := bool_of (letterB_iff c)
  have HT := Lib.hid ht
  have HF := Lib.hid hf
  clear ht hf
  generalize (letterB c) = r at *
  generalize (c.toNat : Int) = n at *
  by_cases h0 : 97 ≤ n
  · by_cases h1 : n ≤ 122
    · obtain rfl := HT.out (.inl ⟨h0, h1⟩)
      go_enter Tryd.func63, Tryd.ntmps63
      go_wp2_with fail
      go_ret
      exact ⟨rfl, rfl⟩
    · obtain rfl := HF.out (by omega)
      have h2 : 48 ≤ n := by omega
      have h3 : ¬ n ≤ 57 := by omega
      go_enter Tryd.func63, Tryd.ntmps63
      go_wp2_with fail
      go_ret
      exact ⟨rfl, rfl⟩
  · by_cases h2 : 48 ≤ n
    · by_cases h3 : n ≤ 57
      · obtain rfl := HT.out (.inr ⟨h2, h3⟩)
        go_enter Tryd.func63, Tryd.ntmps63
        go_wp2_with fail
        go_ret
        exact ⟨rfl, rfl⟩
      · obtain rfl := HF.out (by omega)
        go_enter Tryd.func63, Tryd.ntmps63
        go_wp2_with fail
        go_ret
        exact ⟨rfl, rfl⟩
    · obtain rfl := HF.out (by omega)
      go_enter Tryd.func63, Tryd.ntmps63
      go_wp2_with fail
      go_ret
      exact ⟨rfl, rfl⟩
set_option maxRecDepth 100000 in
theorem lWord_any (w : World) (s : ByteArray) (hs : s.size ≤ 1125899906842624) :
    Calls Tryd.prog 41 #[.string s] w fun e w' => e = .returned (.bool (wordB s)) ∧ w = w' := by
  obtain ⟨r, hr⟩ : ∃ r, r = wordB s := ⟨_, rfl⟩
  rw [← hr]
  have HB := Lib.hid hr
  clear hr
  by_cases h1 : (s.size : Int) = 0
  case pos =>
    have HR := Lib.hid (show r = false by rw [HB.out]; unfold wordB; rw [decide_eq_false (p := 1 ≤ s.size) (by omega)]; rfl)
    have h2 : ((s.size : Int) == 0) = true := by simp [h1]
    clear h1
    go_enter Tryd.func41, Tryd.ntmps41
    go_wp2_with fail
    go_ret
    exact ⟨by rw [HR.out]; rfl, rfl⟩
  have h2 : ((s.size : Int) == 0) = false := by rw [beq_eq_false_iff_ne]; exact h1
  by_cases h3 : (s.size : Int) ≤ 16
  case neg =>
    have HR := Lib.hid (show r = false by rw [HB.out]; unfold wordB; rw [decide_eq_false (p := s.size ≤ 16) (by omega)]; simp)
    clear h1
    go_enter Tryd.func41, Tryd.ntmps41
    go_wp2_with fail
    go_ret
    exact ⟨by rw [HR.out]; rfl, rfl⟩
  have HS : Hid (r = s.data.toList.all letterB) := Lib.hid (by rw [HB.out]; unfold wordB; rw [decide_eq_true (p := 1 ≤ s.size) (by omega), decide_eq_true (p := s.size ≤ 16) (by omega)]; rfl)
  clear h1
  go_enter Tryd.func41, Tryd.ntmps41
  go_wp2_with fail
  clear h2 h3
  go_loopw [14] (fun i wr => ∃ k : Nat, k ≤ s.size ∧ i = .int .i64 k ∧ Hid (Upto (fun _ c => letterB c = true) s.data.toList k) ∧ Hid (w = wr)) (fun i _ => s.size - (intOf i).toNat)
  case atStart => exact ⟨0, Nat.zero_le _, rfl, Lib.hid (upto_zero _ _), Lib.hid rfl⟩
  case round =>
    obtain ⟨k, hk, rfl, HU, HW⟩ := hrel
    by_cases hlt : k < s.size
    · obtain ⟨c, hc⟩ := string_at hlt
      have hix := fun w => index_at (P := Tryd.prog) (t := 9) (by go_side) hc w
      have HC := Lib.hid hc
      have hk1 : (k : Int) < (s.size : Int) := by omega
      clear hc
      go_wp2_with fail
      refine (lletter_any _ c).mono ?_
      rintro e w1 ⟨rfl, rfl⟩
      cases hl : letterB c with
      | false =>
        have HR := Lib.hid (show r = false by rw [HS.out, all_no HC.out hl])
        clear hl hix
        go_wp2_with fail
        go_ret
        exact ⟨by rw [HR.out]; rfl, HW.out⟩
      | true =>
        have HL := Lib.hid hl
        clear hl hix
        go_wp2_with fail
        go_roundw
        case rel => exact ⟨k + 1, by omega, by go_num, Lib.hid (upto_step HU.out HC.out HL.out), HW⟩
        case measure => simp [intOf]; omega
    · have hk2 : ¬ (k : Int) < (s.size : Int) := by omega
      have hks : k = s.size := by omega
      have HR := Lib.hid (show r = true by rw [HS.out]; exact all_yes (by rw [← hks]; exact HU.out))
      clear hks
      go_wp2_with fail
      go_ret
      exact ⟨by rw [HR.out]; rfl, HW.out⟩
end Go.Proofs.YtckbdnkonccmiaaDoor
namespace Go.Proofs.YtckbdnkonccmiaaDoor
open Go.RowKit
/-- what may stand in a line -/
def okB (c : UInt8) : Bool := c == 32 || letterB c
def toB (l : List UInt8) : ByteArray := ⟨l.toArray⟩
def longB (w : List UInt8) : Bool := decide (16 < w.length)
/-- what is wrong with a line's words -/
def wordsE (l : List UInt8) : Option Int :=
  if l.all okB = true then (if (Lib.fields l).any longB = true then some 72 else if 14 < (Lib.fields l).length then some 2 else none) else some 71
/-- a text, cut at a byte -/
def pieces (c : UInt8) : List UInt8 → List (List UInt8)
  | [] => [[]]
  | b :: l => if b == c then [] :: pieces c l else match pieces c l with | [] => [[b]] | p :: ps => (b :: p) :: ps
/-- a line, up to its remark -/
def strip (l : List UInt8) : List UInt8 := l.takeWhile (· != 35)
def items : Nat → List (List UInt8) → List (Nat × List UInt8)
  | _, [] => []
  | no, p :: ps => (no, strip p) :: items (no + 1) ps
def badOf (x : Nat × List UInt8) : Option (Int × Int) := (wordsE x.2).map (fun k => (k, (x.1 : Int)))
def firstBad (l : List (Nat × List UInt8)) : Option (Int × Int) := l.findSome? badOf
def lineOf (x : Nat × List UInt8) : List (Nat × List (List UInt8)) := if Lib.fields x.2 = [] then [] else [(x.1, Lib.fields x.2)]
def gather (l : List (Nat × List UInt8)) : List (Nat × List (List UInt8)) := l.flatMap lineOf
/-- the lines of a text, with their numbers -/
def itemsOf (l : List UInt8) : List (Nat × List UInt8) := items 1 (pieces 10 l)
/-- what is wrong with a text, and where -/
def textE (l : List UInt8) : Option (Int × Int) := if 4096 < l.length then some (2, 0) else firstBad (itemsOf l)
/-- the lines of a text that have words -/
def textL (l : List UInt8) : List (Nat × List (List UInt8)) := gather (itemsOf l)
theorem toB_list (l : List UInt8) : (toB l).data.toList = l := by simp [toB]
theorem toB_size (l : List UInt8) : (toB l).size = l.length := by simp [toB, ByteArray.size]
theorem toB_of (s : ByteArray) : toB s.data.toList = s := by cases s; simp [toB]
theorem letter_ascii {c : UInt8} (h : letterB c = true) : c.toNat < 128 := by
  have := (letterB_iff c).1 h; omega
theorem ok_ascii {c : UInt8} (h : okB c = true) : c.toNat < 128 := by
  unfold okB at h
  rw [Bool.or_eq_true] at h
  rcases h with h | h
  · rw [beq_iff_eq] at h; subst h; decide
  · exact letter_ascii h
theorem fieldsGo_len : ∀ (l cur : List UInt8), (Lib.fieldsGo cur l).length ≤ l.length + 1
  | [], cur => by unfold Lib.fieldsGo; split <;> simp
  | b :: l, cur => by
    unfold Lib.fieldsGo
    have h1 := fieldsGo_len l []
    have h2 := fieldsGo_len l (cur ++ [b])
    split
    · split <;> simp <;> omega
    · simp; omega
theorem fields_len (l : List UInt8) : (Lib.fields l).length ≤ l.length + 1 := fieldsGo_len l []
theorem fieldsGo_mem : ∀ (l cur : List UInt8) (w : List UInt8), w ∈ Lib.fieldsGo cur l → w.length ≤ cur.length + l.length
  | [], cur, w, h => by
    unfold Lib.fieldsGo at h
    split at h
    · simp at h
    · simp at h; subst h; simp
  | b :: l, cur, w, h => by
    unfold Lib.fieldsGo at h
    split at h
    · split at h
      · have := fieldsGo_mem l [] w h; simp at this ⊢; omega
      · rcases List.mem_cons.1 h with rfl | h
        · simp
        · have := fieldsGo_mem l [] w h; simp at this ⊢; omega
    · have := fieldsGo_mem l (cur ++ [b]) w h; simp at this ⊢; omega
theorem fields_mem {l w : List UInt8} (h : w ∈ Lib.fields l) : w.length ≤ l.length := by
  have := fieldsGo_mem l [] w h; simpa using this
theorem strip_len (l : List UInt8) : (strip l).length ≤ l.length := (List.takeWhile_sublist _).length_le
theorem pieces_ne (c : UInt8) (l : List UInt8) : pieces c l ≠ [] := by
  cases l with
  | nil => simp [pieces]
  | cons b l =>
    unfold pieces
    split
    · simp
    · split <;> simp
end Go.Proofs.YtckbdnkonccmiaaDoor
namespace Go.Proofs.YtckbdnkonccmiaaDoor
open Go.RowKit
/-- the table of blanks lies as it was laid -/
def Tab (w : World) : Prop := Lib.TabIs Tryd.prog w ("strings.asciiSpace") .u8 Lib.asciiSpaceTab
theorem tab_named : ∃ g, Tryd.prog.globalNamed ("strings.asciiSpace") = some g := by
  cases e : Tryd.prog.globalNamed ("strings.asciiSpace") with
  | some g => exact ⟨g, rfl⟩
  | none => exact absurd (show (Tryd.prog.globalNamed ("strings.asciiSpace")).isSome = true by kernel_rfl) (by rw [e]; decide)
theorem Tab.below {w w' : World} {B : Nat} (h : Tab w) (hb : Below B w w') (hB : w.heap.size ≤ B) : Tab w' := by
  obtain ⟨g, hg⟩ := tab_named
  unfold Tab Lib.TabIs World.var? at h ⊢
  rw [hg] at h ⊢
  simp only [Option.bind_some] at h ⊢
  have hlt : g < w.heap.size := by
    rcases Nat.lt_or_ge g w.heap.size with h' | h'
    · exact h'
    · rw [Array.getElem?_eq_none h'] at h; cases h
  rw [hb.block g (by omega)]
  exact h
def strV (l : List UInt8) : Value := .string ⟨l.toArray⟩
/-- a fault, as it panics -/
def faultC (k no : Int) : List PanicEntry := [{ v := .iface 104 (.agg #[.int .i64 k, .int .i64 no]), recovered := false }]
/-- what words hands back, or panics with -/
def WordsIs (l : List UInt8) (no : Int) (w : World) (e : Ending) (w' : World) : Prop :=
  match wordsE l with
  | some k => e = .panicked (faultC k no) ∧ Below w.heap.size w w'
  | none => e = .returned (.slice (some ⟨w.heap.size, 0, none⟩) (Lib.fields l).length (Lib.fields l).length) ∧ w.alloc (.cells ((Lib.fields l).map strV).toArray 9) = w'
theorem words_bad {l : List UInt8} {no k : Int} {w w' : World} (h : wordsE l = some k) (hb : Below w.heap.size w w') : WordsIs l no w (.panicked (faultC k no)) w' := by
  unfold WordsIs; rw [h]; exact ⟨rfl, hb⟩
theorem words_fine {l : List UInt8} {no : Int} {w w' : World} (h : wordsE l = none) (hw : w.alloc (.cells ((Lib.fields l).map strV).toArray 9) = w') : WordsIs l no w (.returned (.slice (some ⟨w.heap.size, 0, none⟩) (Lib.fields l).length (Lib.fields l).length)) w' := by
  unfold WordsIs; rw [h]; exact ⟨rfl, hw⟩
theorem all_ok {l : List UInt8} (h : l.all okB = true) : wordsE l = if (Lib.fields l).any longB = true then some 72 else if 14 < (Lib.fields l).length then some 2 else none := by
  unfold wordsE; rw [if_pos h]
theorem not_ok {l : List UInt8} (h : l.all okB = false) : wordsE l = some 71 := by
  unfold wordsE; rw [if_neg (by rw [h]; decide)]
theorem field_cell {w : World} {l : List (List UInt8)} {k : Nat} {x : List UInt8} (hx : l[k]? = some x) : (w.alloc (.cells (l.map strV).toArray 9)).cell? ⟨w.heap.size, k, none⟩ = some (strV x) := by
  have := World.cell?_alloc_new w (l.map strV).toArray 9 k
  rw [this]
  simp [hx]
theorem no_long {l : List (List UInt8)} (h : Upto (fun _ w => longB w = false) l l.length) : l.any longB = false := by
  rw [List.any_eq_false]
  intro x hx
  obtain ⟨i, hi⟩ := List.getElem?_of_mem hx
  simpa using upto_all h i x hi
theorem byte_ne {c d : UInt8} (h : ¬ c = d) (n : Int) (hn : n = (d.toNat : Int)) : ((c.toNat : Int) != n) = true := by
  rw [bne_iff_ne]
  intro e
  exact h (UInt8.toNat_inj.1 (by omega))
theorem longB_no {w : List UInt8} (h : longB w = false) : ¬ 16 < (w.length : Int) := by
  unfold longB at h
  have := of_decide_eq_false h
  omega
theorem longB_yes {w : List UInt8} (h : longB w = true) : 16 < (w.length : Int) := by
  unfold longB at h
  have := of_decide_eq_true h
  omega
theorem any_long {l : List (List UInt8)} {k : Nat} {x : List UInt8} (hx : l[k]? = some x) (h : longB x = true) : l.any longB = true := by
  rw [List.any_eq_true]
  exact ⟨x, List.mem_of_getElem? hx, h⟩
set_option maxRecDepth 100000 in
theorem words_any (w : World) (s : ByteArray) (no : Int) (hs : s.size ≤ 1125899906842624 ∧ s.size < 4294967281) (ht : Tab w) :
    Calls Tryd.prog 68 #[.string s, .int .i64 no] w (WordsIs s.data.toList no w) := by
  have HT := Lib.hid ht
  obtain ⟨hs, hs2⟩ := hs
  clear ht
  go_enter Tryd.func68, Tryd.ntmps68
  go_wp2_with fail
  go_loopw [11] (fun i wr => ∃ k : Nat, k ≤ s.size ∧ i = .int .i64 k ∧ Hid (Upto (fun _ c => okB c = true) s.data.toList k) ∧ Hid (w = wr)) (fun i _ => s.size - (intOf i).toNat)
  case atStart => exact ⟨0, Nat.zero_le _, rfl, Lib.hid (upto_zero _ _), Lib.hid rfl⟩
  case round =>
    obtain ⟨k, hk, rfl, HU, HW⟩ := hrel
    by_cases hlt : k < s.size
    · obtain ⟨c, hc⟩ := string_at hlt
      have hix := fun w => index_at (P := Tryd.prog) (t := 9) (by go_side) hc w
      have HC := Lib.hid hc
      have hk1 : (k : Int) < (s.size : Int) := by omega
      clear hc
      by_cases h32 : c = 32
      · have HO := Lib.hid (show okB c = true by subst h32; rfl)
        have h33 : (c.toNat : Int) = 32 := by subst h32; rfl
        clear h32
        generalize (c.toNat : Int) = n at *
        subst h33
        go_wp2_with fail
        go_roundw
        case rel => exact ⟨k + 1, by omega, by go_num, Lib.hid (upto_step HU.out HC.out HO.out), HW⟩
        case measure => simp [intOf]; omega
      · have h33 : ((c.toNat : Int) != 32) = true := byte_ne h32 32 rfl
        have HE := Lib.hid (show okB c = letterB c by unfold okB; rw [show (c == 32) = false from by simpa using h32]; rfl)
        clear h32
        cases hl : letterB c with
        | false =>
          have HR := Lib.hid (not_ok (all_no HC.out (HE.out.trans hl)))
          have HL := Lib.hid hl
          clear hl
          go_wp2_with (go_at_call 63; refine (lletter_any _ c).mono ?_; rintro e w1 ⟨rfl, rfl⟩; rw [HL.out]; clear hix)
          refine ⟨rfl, ?_⟩
          exact words_bad HR.out (by rw [HW.out]; exact Below.refl _ _)
        | true =>
          have HO := Lib.hid (HE.out.trans hl)
          have HL := Lib.hid hl
          clear hl
          go_wp2_with (go_at_call 63; refine (lletter_any _ c).mono ?_; rintro e w1 ⟨rfl, rfl⟩; rw [HL.out]; clear hix)
          go_roundw
          case rel => exact ⟨k + 1, by omega, by go_num, Lib.hid (upto_step HU.out HC.out HO.out), HW⟩
          case measure => simp [intOf]; omega
    · have hk2 : ¬ (k : Int) < (s.size : Int) := by omega
      have hks : k = s.size := by omega
      have hall : s.data.toList.all okB = true := all_yes (by rw [← hks]; exact HU.out)
      have HR := Lib.hid (all_ok hall)
      have HA := Lib.hid (show ∀ (j : Nat) (b : UInt8), s.data.toList[j]? = some b → b.toNat < 128 from fun j b hj => ok_ascii (List.all_eq_true.1 hall b (List.mem_of_getElem? hj)))
      clear hall hks
      obtain rfl := HW.out
      have hfl := fields_len s.data.toList
      have hsz : s.data.toList.length = s.size := by simp
      rw [hsz] at hfl
      obtain ⟨F, hF⟩ : ∃ F, F = Lib.fields s.data.toList := ⟨_, rfl⟩
      rw [← hF] at hfl
      have HF := Lib.hid hF
      clear hF hsz
      go_wp2_with (go_at_call 83; refine (Tryd.strings_Fields_laid s w hs2 HA.out HT.out).mono ?_; rintro e w1 ⟨rfl, hw1⟩; rw [← HF.out] at hw1; rw [← HF.out]; have HW1 := Lib.hid hw1; clear hw1)
      go_loopw [33] (fun i wr => ∃ k : Nat, k ≤ F.length ∧ i = .int .i64 k ∧ Hid (Upto (fun _ w => longB w = false) F k) ∧ Hid (w1 = wr)) (fun i _ => F.length - (intOf i).toNat)
      case atStart => exact ⟨0, Nat.zero_le _, rfl, Lib.hid (upto_zero _ _), Lib.hid rfl⟩
      case round =>
        obtain ⟨j, hj, rfl, HU2, HW2⟩ := hrel
        by_cases hlt2 : j < F.length
        · obtain ⟨x, hx⟩ : ∃ x, F[j]? = some x := ⟨_, List.getElem?_eq_getElem hlt2⟩
          have hcell : wr.cell? ⟨w.heap.size, j, none⟩ = some (.string ⟨x.toArray⟩) := by rw [← HW2.out, HW1.out]; exact field_cell hx
          have hxl : x.length ≤ s.size := by
            have := fields_mem (l := s.data.toList) (w := x) (by rw [← HF.out]; exact List.mem_of_getElem? hx)
            simpa using this
          have HX := Lib.hid hx
          have hj1 : (j : Int) < (F.length : Int) := by omega
          clear hx
          cases hl : longB x with
          | true =>
            have h16 := longB_yes hl
            have HE := Lib.hid (show wordsE s.data.toList = some 72 by rw [HR.out, ← HF.out, if_pos (any_long HX.out hl)])
            clear hl
            go_wp2_with fail
            refine ⟨rfl, ?_⟩
            exact words_bad HE.out (by rw [← HW2.out, HW1.out]; exact (Below.refl _ _).alloc (Nat.le_refl _) _)
          | false =>
            have h16 := longB_no hl
            have HL := Lib.hid hl
            clear hl
            go_wp2_with fail
            go_roundw
            case rel => exact ⟨j + 1, by omega, by go_num, Lib.hid (upto_step HU2.out HX.out HL.out), HW2⟩
            case measure => simp [intOf]; omega
        · have hj2 : ¬ (j : Int) < (F.length : Int) := by omega
          have hjF : j = F.length := by omega
          have HN := Lib.hid (no_long (l := F) (by rw [← hjF]; exact HU2.out))
          clear hjF
          by_cases h14 : (14 : Int) < (F.length : Int)
          · have HE := Lib.hid (show wordsE s.data.toList = some 2 by rw [HR.out, ← HF.out, if_neg (by rw [HN.out]; decide), if_pos (by omega)])
            go_wp2_with fail
            refine ⟨rfl, ?_⟩
            exact words_bad HE.out (by rw [← HW2.out, HW1.out]; exact (Below.refl _ _).alloc (Nat.le_refl _) _)
          · have HE := Lib.hid (show wordsE s.data.toList = none by rw [HR.out, ← HF.out, if_neg (by rw [HN.out]; decide), if_neg (by omega)])
            go_wp2_with fail
            go_ret
            rw [HF.out]
            exact words_fine HE.out (by rw [← HF.out]; exact HW1.out.symm.trans HW2.out)
end Go.Proofs.YtckbdnkonccmiaaDoor
namespace Go.Proofs.YtckbdnkonccmiaaDoor
open Go.RowKit
/-- a text, before and behind the first such byte -/
def cut1 (c : UInt8) : List UInt8 → List UInt8 × List UInt8 × Bool
  | [] => ([], [], false)
  | b :: l => if b == c then ([], l, true) else (b :: (cut1 c l).1, (cut1 c l).2.1, (cut1 c l).2.2)
theorem cut1_is (c : UInt8) : ∀ l : List UInt8, Lib.cut l [c] = cut1 c l
  | [] => by unfold Lib.cut; rw [Lib.index_one]; rfl
  | b :: l => by
    have ih := cut1_is c l
    have hge := Lib.indexByte_ge l c
    unfold Lib.cut at ih ⊢
    rw [Lib.index_one] at ih ⊢
    unfold Lib.indexByte cut1
    by_cases hb : (b == c) = true
    · simp [hb]
    · simp only [Bool.not_eq_true] at hb
      rw [← ih]
      by_cases hx : Lib.indexByte l c = -1
      · simp [hb, hx]
      · have h0 : 0 ≤ Lib.indexByte l c := by omega
        have h1 : (Lib.indexByte l c == -1) = false := by rw [beq_eq_false_iff_ne]; exact hx
        have h2 : 0 ≤ Lib.indexByte l c + 1 := by omega
        have h3 : (Lib.indexByte l c + 1).toNat = (Lib.indexByte l c).toNat + 1 := by omega
        simp only [hb, h1, Bool.false_eq_true, if_false, if_pos h2, if_pos h0, h3, List.take_succ_cons, List.length_singleton, List.drop_succ_cons]
theorem cut1_first (c : UInt8) : ∀ l : List UInt8, (cut1 c l).1 = l.takeWhile (· != c)
  | [] => rfl
  | b :: l => by
    unfold cut1
    by_cases hb : (b == c) = true
    · rw [if_pos hb, List.takeWhile_cons, if_neg (by simp [bne, hb])]
    · rw [if_neg hb, List.takeWhile_cons, if_pos (by simp [bne, hb]), cut1_first c l]
theorem strip_cut (l : List UInt8) : (cut1 35 l).1 = strip l := cut1_first 35 l
theorem cut1_hit {c b : UInt8} (h : (b == c) = true) (l : List UInt8) : cut1 c (b :: l) = ([], l, true) := by
  rw [cut1, if_pos h]
theorem cut1_skip {c b : UInt8} (h : ¬ (b == c) = true) (l : List UInt8) : cut1 c (b :: l) = (b :: (cut1 c l).1, (cut1 c l).2.1, (cut1 c l).2.2) := by
  rw [cut1, if_neg h]
theorem pieces_hit {c b : UInt8} (h : (b == c) = true) (l : List UInt8) : pieces c (b :: l) = [] :: pieces c l := by
  rw [pieces, if_pos h]
theorem pieces_skip {c b : UInt8} (h : ¬ (b == c) = true) {l p : List UInt8} {ps : List (List UInt8)} (hp : pieces c l = p :: ps) : pieces c (b :: l) = (b :: p) :: ps := by
  rw [pieces, if_neg h, hp]
theorem cut1_yes (c : UInt8) : ∀ l : List UInt8, (cut1 c l).2.2 = true → pieces c l = (cut1 c l).1 :: pieces c (cut1 c l).2.1
  | [], h => by simp [cut1] at h
  | b :: l, h => by
    by_cases hb : (b == c) = true
    · rw [cut1_hit hb, pieces_hit hb]
    · rw [cut1_skip hb] at h ⊢
      rw [pieces_skip hb (cut1_yes c l h)]
theorem cut1_no (c : UInt8) : ∀ l : List UInt8, (cut1 c l).2.2 = false → pieces c l = [l] ∧ (cut1 c l).1 = l ∧ (cut1 c l).2.1 = []
  | [], _ => ⟨rfl, rfl, rfl⟩
  | b :: l, h => by
    by_cases hb : (b == c) = true
    · rw [cut1_hit hb] at h; cases h
    · rw [cut1_skip hb] at h ⊢
      obtain ⟨h1, h2, h3⟩ := cut1_no c l h
      rw [pieces_skip hb h1, h2, h3]; exact ⟨rfl, rfl, rfl⟩
theorem cut1_len (c : UInt8) : ∀ l : List UInt8, (cut1 c l).1.length ≤ l.length ∧ (cut1 c l).2.1.length ≤ l.length ∧ ((cut1 c l).2.2 = true → (cut1 c l).2.1.length < l.length)
  | [] => by simp [cut1]
  | b :: l => by
    obtain ⟨h1, h2, h3⟩ := cut1_len c l
    by_cases hb : (b == c) = true
    · rw [cut1_hit hb]; simp
    · rw [cut1_skip hb]
      simp only [List.length_cons]
      exact ⟨by omega, by omega, fun h => by have := h3 h; omega⟩
/-- what Cut hands back -/
def CutIs (s : ByteArray) (c : UInt8) (w : World) (e : Ending) (w' : World) : Prop :=
  e = .returned (.tuple #[.string (toB (cut1 c s.data.toList).1), .string (toB (cut1 c s.data.toList).2.1), .bool (cut1 c s.data.toList).2.2]) ∧ ∃ n, w' = w.drewN n
set_option maxHeartbeats 2000000 in
set_option maxRecDepth 100000 in
theorem cutIn_any (w : World) (s : ByteArray) (c : UInt8) (hs : s.size < 4294967281) :
    Calls Tryd.prog 89 #[.string s, .string ⟨#[c]⟩] w (CutIs s c w) := by
  unfold CutIs
  rw [← cut1_is c s.data.toList]
  unfold toB
  rcases Lib.indexB_cases s ⟨#[c]⟩ with hix | ⟨i, hix, hroom⟩
  · obtain ⟨e1, e2, e3⟩ := Lib.cutB_miss s ⟨#[c]⟩ hix
    have e1' := Lib.hid e1
    have e2' := Lib.hid e2
    have e3' := Lib.hid e3
    have HX : Hid (Lib.indexByte s.data.toList c = -1) := Lib.hid ((Lib.index_one s.data.toList c).symm.trans hix)
    clear e1 e2 e3 hix
    go_enter Tryd.func89, Tryd.ntmps89
    go_wp2_with (go_at_call 94; refine (Tryd.stringslite_Index_one s c w).mono ?_; rintro e w' ⟨rfl, rfl⟩; rw [HX.out])
    go_ret3
    exact ⟨by rw [show (Lib.cut s.data.toList [c]) = (Lib.cut s.data.toList (⟨#[c]⟩ : ByteArray).data.toList) from rfl, e1'.out, e2'.out, e3'.out]; rfl, 0, rfl⟩
  · obtain ⟨e1, e2, e3⟩ := Lib.cutB_hit s ⟨#[c]⟩ i hix
    have e1' := Lib.hid e1
    have e2' := Lib.hid e2
    have e3' := Lib.hid e3
    have hz : (⟨#[c]⟩ : ByteArray).size = 1 := rfl
    rw [hz] at hroom
    have c1 : (0 : Int) ≤ ↑i := by omega
    have c2 : (↑i : Int) ≤ ↑s.size := by omega
    have c3 : (0 : Int) ≤ ↑i + 1 := by omega
    have c4 : (↑i + 1 : Int) ≤ ↑s.size := by omega
    have HX : Hid (Lib.indexByte s.data.toList c = i) := Lib.hid ((Lib.index_one s.data.toList c).symm.trans hix)
    clear e1 e2 e3 hix
    go_enter Tryd.func89, Tryd.ntmps89
    go_wp2_with (go_at_call 94; refine (Tryd.stringslite_Index_one s c w).mono ?_; rintro e w' ⟨rfl, rfl⟩; rw [HX.out])
    go_region
    go_wp2
    go_ret3
    exact ⟨by rw [show (Lib.cut s.data.toList [c]) = (Lib.cut s.data.toList (⟨#[c]⟩ : ByteArray).data.toList) from rfl, e1'.out, e2'.out, e3'.out]; rfl, 1, rfl⟩
theorem cut_any (w : World) (s : ByteArray) (c : UInt8) (hs : s.size < 4294967281) :
    Calls Tryd.prog 82 #[.string s, .string ⟨#[c]⟩] w (CutIs s c w) := by
  go_enter Tryd.func82, Tryd.ntmps82
  go_wp2_with (go_at_call 89; refine (cutIn_any w s c hs).mono ?_; rintro e w' ⟨rfl, n, rfl⟩)
  go_ret3
  exact ⟨rfl, n, rfl⟩
end Go.Proofs.YtckbdnkonccmiaaDoor
namespace Go.Proofs.YtckbdnkonccmiaaDoor
open Go.RowKit Go.Shelf
attribute [local go_sem] Oper.semAt_some

abbrev encItem (x : Nat × List UInt8) : Array Value := #[.int .i64 (x.1 : Int), .string (toB x.2)]
theorem numbered_any (s : ByteArray) (w : World) : Calls Tryd.prog 67 #[.string s] w fun e w' => e = .returned (.func (.func 81) #[] #[.pointer (some ⟨w.heap.size, 0, none⟩)]) ∧ w.alloc (.cells #[.string s] 9) = w' := by
  go_enter Tryd.func67, Tryd.ntmps67
  go_wp2_with fail
  go_ret
  exact ⟨rfl, rfl⟩
theorem cut_list {c : UInt8} {l a b : List UInt8} {m : Bool} (h : cut1 c l = (a, b, m)) (hs : l.length < 4294967281) (w : World) :
    Calls Tryd.prog 82 #[.string (toB l), .string ⟨#[c]⟩] w fun e w' => e = .returned (.tuple #[.string (toB a), .string (toB b), .bool m]) ∧ ∃ n, w' = w.drewN n := by
  refine (cut_any w (toB l) c (by rw [toB_size]; exact hs)).mono ?_
  intro e w' hc
  unfold CutIs at hc
  rw [toB_list, h] at hc
  exact hc
theorem grown_drewN (w : World) (n : Nat) : w.grownBy (w.drewN n) none := ⟨rfl, rfl, rfl, Nat.le_refl _, fun _ _ _ => rfl⟩
/-- what is still to come -/
def Left (its pre : List (Nat × List UInt8)) (no : Nat) (l : List UInt8) (more : Bool) : Prop := its = pre ++ (if more = true then items no (pieces 10 l) else [])
theorem left_next {its pre : List (Nat × List UInt8)} {no : Nat} {l a b : List UInt8} {m : Bool} (h : Left its pre no l true) (hc : cut1 10 l = (a, b, m)) : (∃ post, its = pre ++ (no, strip a) :: post) ∧ Left its (pre ++ [(no, strip a)]) (no + 1) b m := by
  unfold Left at h ⊢
  rw [if_pos rfl] at h
  cases m with
  | true =>
    have h1 := cut1_yes 10 l (by rw [hc])
    rw [hc] at h1
    rw [h1] at h
    rw [if_pos rfl]
    refine ⟨⟨items (no + 1) (pieces 10 b), by rw [h]; rfl⟩, ?_⟩
    rw [h]
    simp [items]
  | false =>
    have h1 := cut1_no 10 l (by rw [hc])
    rw [hc] at h1
    obtain ⟨h1, h2, -⟩ := h1
    simp only at h2
    subst h2
    rw [h1] at h
    rw [if_neg (by decide)]
    exact ⟨⟨[], by rw [h]; rfl⟩, by rw [h]; simp [items]⟩
theorem left_len {its pre : List (Nat × List UInt8)} {no : Nat} {l : List UInt8} {m : Bool} (h : Left its pre no l m) : pre.length ≤ its.length := by
  unfold Left at h; rw [h]; simp
set_option maxRecDepth 100000 in
set_option maxHeartbeats 2000000 in
/-- THE ITERATOR, where each round goes on or panics. -/
theorem numbered_iter (l0 : List UInt8) (hl0 : l0.length ≤ 1000000) (Bb : Nat) (w : World) (hb : w.heap[Bb]? = some (.cells #[.string (toB l0)] 9 (0, 0))) (n : Nat) :
    Ranged.Iter n Tryd.prog 81 #[.pointer (some ⟨Bb, 0, none⟩)] encItem (itemsOf l0) w := by
  intro lp J Bad W hgW hJ hY h0
  have HY := Lib.hid hY
  have HJ := Lib.hid hJ
  have hb1 : W.cell? ⟨Bb, 0, none⟩ = some (.string (toB l0)) := cell_of_row _ _ _ _ _ _ ((hgW.block _ (Array.getElem?_eq_some_iff.1 hb).1 (by simp)).trans hb)
  clear hY hJ hgW hb
  refine callsIn_of_wp Tryd.func81 rfl trivial ?_ rfl
  simp only [Tryd.ntmps81, List.size_toArray, List.length_cons, List.length_nil, Nat.reduceAdd, Nat.reduceSub, Array.replicate_succ, Array.replicate_zero, List.push_toArray, List.append_toArray, List.nil_append, List.cons_append]
  gi_wp2
  clear hb1
  gi_loopw [3, 4, 5] (fun p q r wr => ∃ (pre : List (Nat × List UInt8)) (no : Nat) (l : List UInt8) (m : Bool), p = .string (toB l) ∧ q = .bool m ∧ r = .int .i64 (no : Int) ∧ (m = true → no + l.length ≤ 1000001) ∧ Hid (Left (itemsOf l0) pre no l m) ∧ Hid (J pre wr))
    (fun p q _ _ => match p, q with | .string s, .bool true => s.size + 1 | _, _ => 0)
  case atStart => exact ⟨[], 1, l0, true, rfl, rfl, rfl, fun _ => by omega, Lib.hid (by unfold Left itemsOf; simp), Lib.hid h0⟩
  case round =>
    obtain ⟨pre, no, l, m, rfl, rfl, rfl, hno, HL, HJ'⟩ := hrel
    cases m with
    | false =>
      gi_wp2
      refine bodyPost_end (results_none rfl _ _ _) rfl ?_
      have h1 := HL.out
      unfold Left at h1
      rw [if_neg (by decide), List.append_nil] at h1
      exact .inl ⟨⟨_, rfl⟩, by rw [h1]; exact HJ'.out⟩
    | true =>
      have hno := hno rfl
      obtain ⟨a, b, m2, hc⟩ : ∃ a b m2, cut1 10 l = (a, b, m2) := ⟨_, _, _, rfl⟩
      obtain ⟨a', b', m', hc'⟩ : ∃ a' b' m', cut1 35 a = (a', b', m') := ⟨_, _, _, rfl⟩
      have hlen := cut1_len 10 l
      rw [hc] at hlen
      obtain ⟨la, lb, lm⟩ := hlen
      obtain ⟨hpost, hnext⟩ := left_next HL.out hc
      have hst : strip a = a' := by rw [← strip_cut, hc']
      rw [hst] at hpost hnext
      have HP := Lib.hid hpost
      have HN := Lib.hid hnext
      have HC := Lib.hid hc
      have HC' := Lib.hid hc'
      clear hpost hnext hc hc' hst
      dsimp only at la lb lm
      have hno1 : (no : Int) ≤ 1000001 := by omega
      have hno0 : (0 : Int) ≤ (no : Int) := by omega
      have hl1 : l.length < 4294967281 := by omega
      have hl2 : a.length < 4294967281 := by omega
      gi_wp2_with (refine ⟨trivial, fun h => absurd h (by decide), ?_⟩; gi_at_call 82; first | ((with_reducible show CallsIn _ _ _ _ #[.string (toB l), _] _ _); refine (callsIn_wide.2 (cut_list HC.out hl1 wr)).mono ?_; rintro e1 w1 ⟨rfl, n1, rfl⟩) | ((with_reducible show CallsIn _ _ _ _ #[.string (toB a), _] _ _); refine (callsIn_wide.2 (cut_list HC'.out hl2 _)).mono ?_; rintro e1 w1 ⟨rfl, n2, rfl⟩; have hJ1 := HJ.out _ _ _ HJ'.out (grown_drewN wr (n1 + n2)); obtain ⟨yf, yt, ya, yb, hy, hRd⟩ := HY.out pre (no, a') (wr.drewN (n1 + n2)) hJ1 HP.out; have HRd := Lib.hid hRd; dsimp only [encItem] at hy; clear hRd hJ1))
      refine ⟨fun h => absurd h (by decide), HRd.out.mono ?_⟩
      rintro e3 W3 (⟨rfl, hJ3⟩ | ⟨ch, rfl, hb3⟩)
      · have HJ3 := Lib.hid hJ3
        clear hJ3 HRd hy
        gi_wp2
        go_roundw
        case rel => exact ⟨pre ++ [(no, a')], no + 1, b, m2, rfl, rfl, by go_num, fun e => by have := lm e; omega, HN, HJ3⟩
        case measure => cases m2 <;> simp_all [toB_size] <;> omega
      · exact ⟨rfl, .inr ⟨ch, rfl, hb3⟩⟩
end Go.Proofs.YtckbdnkonccmiaaDoor
namespace Go.Proofs.YtckbdnkonccmiaaDoor
open Go.RowKit Go.Shelf
theorem assert_fault (v : Value) (w : World) : (Instr.typeAssert (.iface 104 v) 20 104 true).run Tryd.prog w = .ok (.tuple #[v, .bool true]) w := by
  simp [Instr.typeAssert, go_sem]
theorem assert_nil (w : World) : (Instr.typeAssert .nilIface 20 104 true).run Tryd.prog w = .ok (.tuple #[.agg #[.int .i64 0, .int .i64 0], .bool false]) w := by
  simp [Instr.typeAssert, go_sem]
/-- what the closure leaves of a fault -/
def Told (h : Nat) (k no : Int) (w w' : World) : Prop :=
  w'.cell? ⟨h, 0, none⟩ = some (.slice none 0 0) ∧ w'.cell? ⟨h + 1, 0, none⟩ = some (.int .i64 k) ∧ w'.cell? ⟨h + 1 + 1, 0, none⟩ = some (.int .i64 no) ∧ Below h w w'
theorem told_of {h : Nat} {k no : Int} {v0 v1 v2 : Value} {w : World} (h0 : w.heap[h]? = some (.cells #[v0] 36 (0, 0))) (h1 : w.heap[h + 1]? = some (.cells #[v1] 31 (0, 0))) (h2 : w.heap[h + 1 + 1]? = some (.cells #[v2] 3 (0, 0))) (ob : Obj) :
    Told h k no w (((((w.setCell ⟨h, 0, none⟩ (.slice none 0 0)).setCell ⟨h + 1, 0, none⟩ (.int .i64 k)).setCell ⟨h + 1 + 1, 0, none⟩ (.int .i64 no)).alloc ob).drew) := by
  have b0 : Boxed w h 36 v0 := h0
  have b1 : Boxed w (h + 1) 31 v1 := h1
  have b2 : Boxed w (h + 1 + 1) 3 v2 := h2
  have c0 := (((b0.set (.slice none 0 0)).other (B' := h + 1) (by omega) (.int .i64 k)).other (B' := h + 1 + 1) (by omega) (.int .i64 no)).alloc ob
  have c1 := (((b1.other (B' := h) (by omega) (.slice none 0 0)).set (.int .i64 k)).other (B' := h + 1 + 1) (by omega) (.int .i64 no)).alloc ob
  have c2 := (((b2.other (B' := h) (by omega) (.slice none 0 0)).other (B' := h + 1) (by omega) (.int .i64 k)).set (.int .i64 no)).alloc ob
  have hlt : h + 1 + 1 < w.heap.size := (Array.getElem?_eq_some_iff.1 h2).1
  refine ⟨c0.cell, c1.cell, c2.cell, ?_⟩
  have hb := ((((Below.refl h w).setCell (p := ⟨h, 0, none⟩) (Nat.le_refl _) (.slice none 0 0)).setCell (p := ⟨h + 1, 0, none⟩) (Nat.le_succ _) (.int .i64 k)).setCell (p := ⟨h + 1 + 1, 0, none⟩) (by simp only []; omega) (.int .i64 no)).alloc (by simp [World.setCell]; omega) ob
  exact ⟨hb.os, hb.tape, hb.output, hb.size, hb.block⟩
set_option maxRecDepth 100000 in
theorem catch_fault (h : Nat) (k no : Int) (v0 v1 v2 : Value) (w : World) (h0 : w.heap[h]? = some (.cells #[v0] 36 (0, 0))) (h1 : w.heap[h + 1]? = some (.cells #[v1] 31 (0, 0))) (h2 : w.heap[h + 1 + 1]? = some (.cells #[v2] 3 (0, 0))) (n : Nat) :
    CallsDIn Fence.wide n Tryd.prog 66 #[.pointer (some ⟨h, 0, none⟩), .pointer (some ⟨h + 1, 0, none⟩), .pointer (some ⟨h + 1 + 1, 0, none⟩)] (.panicking (faultC k no)) w fun e u' w' =>
      e = .returned (.tuple #[]) ∧ u' = .panicking [{ v := .iface 104 (.agg #[.int .i64 k, .int .i64 no]), recovered := true }] ∧ Told h k no w w' := by
  unfold faultC
  have ha := assert_fault (.agg #[.int .i64 k, .int .i64 no])
  have hwd : ∀ f, Fence.wide.fn f := fun _ => trivial
  have k0 : w.cell? ⟨h, 0, none⟩ = some v0 := cell_of_row _ _ _ _ _ _ h0
  have k1 : w.cell? ⟨h + 1, 0, none⟩ = some v1 := cell_of_row _ _ _ _ _ _ h1
  have k2 : w.cell? ⟨h + 1 + 1, 0, none⟩ = some v2 := cell_of_row _ _ _ _ _ _ h2
  have z0 : w.frozen? ⟨h, 0, none⟩ = false := frozen_of_row _ _ _ _ _ h0
  have z1 : w.frozen? ⟨h + 1, 0, none⟩ = false := frozen_of_row _ _ _ _ _ h1
  have z2 : w.frozen? ⟨h + 1 + 1, 0, none⟩ = false := frozen_of_row _ _ _ _ _ h2
  have hlt : h + 1 + 1 < w.heap.size := (Array.getElem?_eq_some_iff.1 h2).1
  have hlt0 : h < w.heap.size := by omega
  have hlt1 : h + 1 < w.heap.size := by omega
  have hn0 : ¬ w.heap.size = h := by omega
  have hn1 : ¬ w.heap.size = h + 1 := by omega
  have hn2 : ¬ w.heap.size = h + 1 + 1 := by omega
  refine callsDIn_of_wpSIn Tryd.func66 rfl trivial fun c₀ cs hu => ?_
  simp only [Tryd.ntmps66, List.size_toArray, List.length_cons, List.length_nil, Nat.reduceAdd, Nat.reduceSub, Array.replicate_succ, Array.replicate_zero, List.push_toArray, List.append_toArray, List.nil_append, List.cons_append]
  apply wpSIn_seq
  apply wpSIn_region
  simp [wpOpsSIn, go_sem, recoverD, hu, Exit.thenS, ha, hwd]
  refine wpSIn_of_wpIn rfl (wpIn_wide.2 ?_)
  go_wp2
  go_region
  go_wp2
  exact ⟨rfl, _, rfl, _, results_none rfl _ _ _, rfl, rfl, told_of h0 h1 h2 _⟩
set_option maxRecDepth 100000 in
theorem catch_none (h : Nat) (w : World) (n : Nat) :
    CallsDIn Fence.wide n Tryd.prog 66 #[.pointer (some ⟨h, 0, none⟩), .pointer (some ⟨h + 1, 0, none⟩), .pointer (some ⟨h + 1 + 1, 0, none⟩)] .returning w fun e u' w' =>
      e = .returned (.tuple #[]) ∧ u' = .returning ∧ w' = w.alloc (.cells #[.int .i64 0, .int .i64 0] 104) := by
  have ha := assert_nil
  have hwd : ∀ f, Fence.wide.fn f := fun _ => trivial
  refine callsDIn_of_wpSIn Tryd.func66 rfl trivial fun c₀ cs hu => ?_
  simp only [Tryd.ntmps66, List.size_toArray, List.length_cons, List.length_nil, Nat.reduceAdd, Nat.reduceSub, Array.replicate_succ, Array.replicate_zero, List.push_toArray, List.append_toArray, List.nil_append, List.cons_append]
  apply wpSIn_seq
  apply wpSIn_region
  simp [wpOpsSIn, go_sem, recoverD, hu, Exit.thenS, ha, hwd]
  refine wpSIn_of_wpIn rfl (wpIn_wide.2 ?_)
  go_wp2
  refine ⟨rfl, .returning, ?_, _, results_none rfl _ _ _, rfl, rfl, rfl⟩
  cases c₀
  simp_all
end Go.Proofs.YtckbdnkonccmiaaDoor
namespace Go.Proofs.YtckbdnkonccmiaaDoor
open Go.RowKit Go.Shelf
/-- a line: its number, the slice of its words, and the words -/
structure Ln where
  no : Int
  v : Value
  ws : List ByteArray
def Ln.cells (x : Ln) : List Value := [.int .i64 x.no, x.v]
theorem Ln.cells_len (x : Ln) : x.cells.length = 2 := rfl
def Ln.told (x : Ln) : Int × List ByteArray := (x.no, x.ws)
theorem line_info : (Tryd.prog.info? 50).map (fun i => (i.zero, i.size, i.bytes)) = some (some (.agg #[.int .i64 0, .slice none 0 0]), 2, 32) := by kernel_rfl
theorem line_parts : ∃ i, Tryd.prog.info? 50 = some i ∧ i.zero = some (.agg #[.int .i64 0, .slice none 0 0]) ∧ i.size = 2 ∧ i.bytes = 32 := by
  have h := line_info
  cases e : Tryd.prog.info? 50 with
  | none => rw [e] at h; cases h
  | some i =>
    rw [e] at h
    simp only [Option.map_some, Option.some.injEq, Prod.mk.injEq] at h
    exact ⟨i, rfl, h.1, h.2.1, h.2.2⟩
def toldOf (x : Nat × List (List UInt8)) : Int × List ByteArray := ((x.1 : Int), x.2.map toB)
def toldL (l : List (Nat × List (List UInt8))) : List (Int × List ByteArray) := l.map toldOf
/-- the lines lie at v, in blocks from B on, and their words beside them -/
def LnsAt (W : World) (B : Nat) (l : List (Int × List ByteArray)) (n : Nat) (v : Value) : Prop :=
  ∃ xs : List Ln, n = xs.length ∧ xs.map Ln.told = l ∧ W.ownsRow B 50 2 v n (xs.flatMap Ln.cells) ∧ ∀ x ∈ xs, ∃ B', W.ownsRow B' 9 1 x.v x.ws.length (x.ws.flatMap sC)
theorem LnsAt.below {W w2 : World} {B n : Nat} {l : List (Int × List ByteArray)} {v : Value} (h : LnsAt W B l n v) (hb : Below W.heap.size W w2) : LnsAt w2 B l n v := by
  obtain ⟨xs, h1, h2, h3, h4⟩ := h
  refine ⟨xs, h1, h2, own_below h3 hb, fun x hx => ?_⟩
  obtain ⟨B', hB⟩ := h4 x hx
  exact ⟨B', own_below hB hb⟩
theorem LnsAt.mono {W : World} {B B2 n : Nat} {l : List (Int × List ByteArray)} {v : Value} (h : LnsAt W B l n v) (hB : B2 ≤ B) : LnsAt W B2 l n v := by
  obtain ⟨xs, h1, h2, ⟨h3, h3'⟩, h4⟩ := h
  refine ⟨xs, h1, h2, ⟨h3, ?_⟩, h4⟩
  rcases h3' with h | ⟨g, cap, cur, e, hb, rest⟩
  · exact .inl h
  · exact .inr ⟨g, cap, cur, e, Nat.le_trans hB hb, rest⟩
/-- what a growth that turns no cells leaves -/
theorem grown_same {A B : World} {row : Option Nat} {W0 : Nat} (hg : A.grownBy B row) (hr : ∀ r, row = some r → W0 ≤ r ∧ ∃ o, A.heap[r]? = some o ∧ o.isCells = false) {g : Nat} {cs : Array Value} {t : TypeId} (h : A.heap[g]? = some (Obj.cells cs t (0, 0))) : B.heap[g]? = A.heap[g]? := by
  refine hg.block g (Array.getElem?_eq_some_iff.1 h).1 (fun e => ?_)
  obtain ⟨-, o, ho, hc⟩ := hr g e.symm
  rw [h] at ho
  cases ho
  cases hc
theorem boxed_same {A B : World} {row : Option Nat} {W0 : Nat} (hg : A.grownBy B row) (hr : ∀ r, row = some r → W0 ≤ r ∧ ∃ o, A.heap[r]? = some o ∧ o.isCells = false) {b : Nat} {t : TypeId} {v : Value} (h : Boxed A b t v) : Boxed B b t v := (grown_same hg hr h).trans h
theorem row_same {A B : World} {row : Option Nat} {W0 : Nat} (hg : A.grownBy B row) (hr : ∀ r, row = some r → W0 ≤ r ∧ ∃ o, A.heap[r]? = some o ∧ o.isCells = false) {base size n : Nat} {e : TypeId} {v : Value} {xs : List Value} (h : A.ownsRow base e size v n xs) : B.ownsRow base e size v n xs := by
  rcases h.2 with ⟨rfl, _⟩ | ⟨g, cap, cur, rfl, _, hgb, _⟩
  · exact h.kept hg (.inl rfl)
  · refine h.kept hg (.inr (fun ee => ?_))
    obtain ⟨-, o, ho, hc⟩ := hr g ee.symm
    rw [hgb] at ho
    cases ho
    cases hc
theorem LnsAt.same {A W : World} {row : Option Nat} {W0 B n : Nat} {l : List (Int × List ByteArray)} {v : Value} (h : LnsAt A B l n v) (hg : A.grownBy W row) (hr : ∀ r, row = some r → W0 ≤ r ∧ ∃ o, A.heap[r]? = some o ∧ o.isCells = false) : LnsAt W B l n v := by
  obtain ⟨xs, h1, h2, h3, h4⟩ := h
  refine ⟨xs, h1, h2, row_same hg hr h3, fun x hx => ?_⟩
  obtain ⟨B', hB⟩ := h4 x hx
  exact ⟨B', row_same hg hr hB⟩
theorem LnsAt.nil (W : World) (B : Nat) : LnsAt W B [] 0 (.slice none 0 0) := ⟨[], rfl, rfl, World.ownsRow_nil _ _ _ _, fun x hx => (by cases hx)⟩
theorem words_flat (F : List (List UInt8)) : (F.map toB).flatMap sC = F.map strV := by
  induction F with
  | nil => rfl
  | cons x F ih => rw [List.map_cons, List.flatMap_cons, ih]; rfl
theorem words_own (W : World) (F : List (List UInt8)) (hF : F.length ≤ 14) : (W.alloc (.cells (F.map strV).toArray 9)).ownsRow W.heap.size 9 1 (.slice (some ⟨W.heap.size, 0, none⟩) F.length F.length) F.length ((F.map toB).flatMap sC) := by
  rw [words_flat]
  refine ⟨by simp, .inr ⟨W.heap.size, F.length, _, rfl, Nat.le_refl _, heap_alloc_new W _, Nat.le_refl _, by simp only [maxLen]; omega, by simp, by rw [Nat.mul_one]; exact List.take_of_length_le (by simp)⟩⟩
theorem wordsE_none {l : List UInt8} (h : wordsE l = none) : (Lib.fields l).length ≤ 14 ∧ l.all okB = true ∧ (Lib.fields l).any longB = false := by
  unfold wordsE at h
  by_cases h1 : l.all okB = true
  · rw [if_pos h1] at h
    by_cases h2 : (Lib.fields l).any longB = true
    · rw [if_pos h2] at h; cases h
    · rw [if_neg h2] at h
      by_cases h3 : 14 < (Lib.fields l).length
      · rw [if_pos h3] at h; cases h
      · exact ⟨by omega, h1, by simpa using h2⟩
  · rw [if_neg h1] at h; cases h
theorem items_len : ∀ (no : Nat) (ps : List (List UInt8)), (items no ps).length = ps.length
  | _, [] => rfl
  | no, p :: ps => by rw [items, List.length_cons, List.length_cons, items_len]
theorem pieces_small (c : UInt8) : ∀ l : List UInt8, (pieces c l).length ≤ l.length + 1 ∧ ∀ p ∈ pieces c l, p.length ≤ l.length
  | [] => by simp [pieces]
  | b :: l => by
    obtain ⟨h1, h2⟩ := pieces_small c l
    by_cases hb : (b == c) = true
    · rw [pieces_hit hb]
      refine ⟨by simp; omega, fun p hp => ?_⟩
      rcases List.mem_cons.1 hp with rfl | hp
      · simp
      · have := h2 p hp; simp; omega
    · obtain ⟨p, ps, e⟩ : ∃ p ps, pieces c l = p :: ps := by
        cases e : pieces c l with
        | nil => exact absurd e (pieces_ne c l)
        | cons p ps => exact ⟨p, ps, rfl⟩
      rw [pieces_skip hb e]
      rw [e] at h1 h2
      refine ⟨by simp at h1 ⊢; omega, fun q hq => ?_⟩
      rcases List.mem_cons.1 hq with rfl | hq
      · have := h2 p (by simp); simp; omega
      · have := h2 q (by simp [hq]); simp; omega
theorem items_small : ∀ {no : Nat} {ps : List (List UInt8)} {m : Nat}, (∀ p ∈ ps, p.length ≤ m) → ∀ x ∈ items no ps, x.2.length ≤ m
  | _, [], _, _, x, hx => by cases hx
  | no, p :: ps, m, h, x, hx => by
    rw [items] at hx
    rcases List.mem_cons.1 hx with rfl | hx
    · exact Nat.le_trans (strip_len p) (h p (by simp))
    · exact items_small (fun q hq => h q (by simp [hq])) x hx
theorem itemsOf_small (l : List UInt8) : (itemsOf l).length ≤ l.length + 1 ∧ ∀ x ∈ itemsOf l, x.2.length ≤ l.length := by
  obtain ⟨h1, h2⟩ := pieces_small 10 l
  exact ⟨by unfold itemsOf; rw [items_len]; exact h1, items_small h2⟩
theorem gather_len (l : List (Nat × List UInt8)) : (gather l).length ≤ l.length := by
  induction l with
  | nil => simp [gather]
  | cons x l ih =>
    unfold gather at ih ⊢
    rw [List.flatMap_cons, List.length_append, List.length_cons]
    have : (lineOf x).length ≤ 1 := by unfold lineOf; split <;> simp
    omega
theorem gather_add (l : List (Nat × List UInt8)) (x : Nat × List UInt8) : gather (l ++ [x]) = gather l ++ lineOf x := by
  unfold gather; rw [List.flatMap_append]; simp
theorem lineOf_none {x : Nat × List UInt8} (h : Lib.fields x.2 = []) : lineOf x = [] := by unfold lineOf; rw [if_pos h]
theorem lineOf_some {x : Nat × List UInt8} (h : ¬ Lib.fields x.2 = []) : lineOf x = [(x.1, Lib.fields x.2)] := by unfold lineOf; rw [if_neg h]
theorem bad_here {pre post : List (Nat × List UInt8)} {x : Nat × List UInt8} {k : Int} (hp : firstBad pre = none) (h : wordsE x.2 = some k) : firstBad (pre ++ x :: post) = some (k, (x.1 : Int)) := by
  unfold firstBad at hp ⊢
  rw [List.findSome?_append, hp, List.findSome?_cons]
  unfold badOf
  rw [h]; rfl
theorem fine_here {pre : List (Nat × List UInt8)} {x : Nat × List UInt8} (hp : firstBad pre = none) (h : wordsE x.2 = none) : firstBad (pre ++ [x]) = none := by
  unfold firstBad at hp ⊢
  rw [List.findSome?_append, hp, List.findSome?_cons]
  unfold badOf
  rw [h]; rfl
/-- what stands between two rounds; h: the heap's size when the call began, B: the heap's size when the loop began -/
def CI (w : World) (B : Nat) (pre : List (Nat × List UInt8)) (W : World) : Prop :=
  (∃ v n, Boxed W w.heap.size 36 v ∧ LnsAt W B (toldL (gather pre)) n v) ∧ Boxed W (w.heap.size + 1) 31 (.int .i64 0) ∧ Boxed W (w.heap.size + 1 + 1) 3 (.int .i64 0) ∧ Below w.heap.size w W ∧ firstBad pre = none
theorem ci_own (w : World) (B D : Nat) (hD : w.heap.size ≤ D) : OwnFrom D (CI w B) := by
  rintro pre X Y row ⟨⟨v, n, h1, h2⟩, h3, h4, h5, h6⟩ hg hr
  exact ⟨⟨v, n, boxed_same hg hr h1, h2.same hg hr⟩, boxed_same hg hr h3, boxed_same hg hr h4, h5.grown hg h5.size (fun k hk => by have := (hr k hk).1; omega), h6⟩
/-- what stands behind a panic -/
def CB (w : World) (l : List UInt8) (ch : List PanicEntry) (W : World) : Prop :=
  ∃ k no v, ch = faultC k no ∧ firstBad (itemsOf l) = some (k, no) ∧ Boxed W w.heap.size 36 v ∧ Boxed W (w.heap.size + 1) 31 (.int .i64 0) ∧ Boxed W (w.heap.size + 1 + 1) 3 (.int .i64 0) ∧ Below w.heap.size w W
theorem cb_own (w : World) (l : List UInt8) (D : Nat) (hD : w.heap.size ≤ D) : OwnFrom D (CB w l) := by
  rintro pre X Y row ⟨k, no, v, h0, h1, h2, h3, h4, h5⟩ hg hr
  exact ⟨k, no, v, h0, h1, boxed_same hg hr h2, boxed_same hg hr h3, boxed_same hg hr h4, h5.grown hg h5.size (fun k hk => by have := (hr k hk).1; omega)⟩
theorem grown_of_below {w w' : World} (h : Below w.heap.size w w') : w.grownBy w' none := ⟨h.os, h.tape, h.output, h.size, fun i hi _ => h.block i hi⟩
theorem keeps_of_below {w w' : World} (h : Below w.heap.size w w') (B : Nat) : KeepsFrom B w w' := (KeepsOthers.of_grownBy (grown_of_below h) (fun j o e => by cases e)).from B
theorem boxed_below {w w' : World} {b : Nat} {t : TypeId} {v : Value} (h : Boxed w b t v) (hb : Below w.heap.size w w') : Boxed w' b t v := (hb.block _ (Array.getElem?_eq_some_iff.1 h).1).trans h
theorem ci_bad {w W W' : World} {B : Nat} {l : List UInt8} {pre post : List (Nat × List UInt8)} {x : Nat × List UInt8} {k : Int} (h : CI w B pre W) (hp : itemsOf l = pre ++ x :: post) (hk : wordsE x.2 = some k) (hb : Below W.heap.size W W') : CB w l (faultC k (x.1 : Int)) W' := by
  obtain ⟨⟨v, n, h1, -⟩, h3, h4, h5, h6⟩ := h
  exact ⟨k, (x.1 : Int), v, rfl, by rw [hp]; exact bad_here h6 hk, boxed_below h1 hb, boxed_below h3 hb, boxed_below h4 hb, h5.trans (hb.mono h5.size)⟩
theorem ci_skip {w W W' : World} {B : Nat} {pre : List (Nat × List UInt8)} {x : Nat × List UInt8} (h : CI w B pre W) (hx : wordsE x.2 = none) (hf : Lib.fields x.2 = []) (hb : Below W.heap.size W W') : CI w B (pre ++ [x]) W' := by
  obtain ⟨⟨v, n, h1, h2⟩, h3, h4, h5, h6⟩ := h
  exact ⟨⟨v, n, boxed_below h1 hb, by rw [gather_add, lineOf_none hf, List.append_nil]; exact h2.below hb⟩, boxed_below h3 hb, boxed_below h4 hb, h5.trans (hb.mono h5.size), fine_here h6 hx⟩
theorem ci_box {w W W1 w2 : World} {B : Nat} {v : Value} {n : Nat} {ob : Obj} {xs : List Value} (hB : w.heap.size + 1 + 1 < B) (hv : Boxed W w.heap.size 36 v) (hown : W.ownsRow B 50 2 v n xs) (hb1 : Below W.heap.size W W1) (hg : (W1.alloc ob).grownBy w2 v.ownBlock) : Boxed w2 w.heap.size 36 v := by
  have h1 := boxed_below hv hb1
  have hl := (Array.getElem?_eq_some_iff.1 h1).1
  exact ((hg.block _ (by simp; omega) (fun e => by have := (hown.lt _ e.symm).1; omega)).trans (Below.heap_alloc _ _ _ hl)).trans h1
theorem one_line (no : Int) (A : Option Addr) (n c : Nat) : ∀ u ∈ [Value.int .i64 no, .slice A n c], u.oneCell' = true := by
  intro u hu
  simp only [List.mem_cons, List.not_mem_nil, or_false] at hu
  rcases hu with rfl | rfl <;> rfl
/-- what a line's append leaves -/
theorem ci_more {w W W1 w2 : World} {B : Nat} {pre : List (Nat × List UInt8)} {x : Nat × List UInt8} {v v' : Value} {n : Nat} {ob : Obj} (hB : w.heap.size + 1 + 1 < B) (h : CI w B pre W) (hv : Boxed W w.heap.size 36 v) (xs : List Ln)
    (hn : n = xs.length) (htold : xs.map Ln.told = toldL (gather pre)) (hown : W.ownsRow B 50 2 v n (xs.flatMap Ln.cells)) (hws : ∀ x ∈ xs, ∃ B', W.ownsRow B' 9 1 x.v x.ws.length (x.ws.flatMap sC))
    (hx : wordsE x.2 = none) (hf : ¬ Lib.fields x.2 = []) (hW1 : W.alloc (.cells ((Lib.fields x.2).map strV).toArray 9) = W1)
    (ho : w2.ownsRow B 50 2 v' (n + 1) (xs.flatMap Ln.cells ++ [.int .i64 (x.1 : Int), .slice (some ⟨W.heap.size, 0, none⟩) (Lib.fields x.2).length (Lib.fields x.2).length])) (hg : (W1.alloc ob).grownBy w2 v.ownBlock) (D : Nat) (_hD : w.heap.size ≤ D) :
    KeepsFrom D W (w2.setCell ⟨w.heap.size, 0, none⟩ v') ∧ CI w B (pre ++ [x]) (w2.setCell ⟨w.heap.size, 0, none⟩ v') := by
  have hwo := words_own W (Lib.fields x.2) (wordsE_none hx).1
  rw [hW1] at hwo
  have hb1 : Below W.heap.size W W1 := by rw [← hW1]; exact (Below.refl _ _).alloc (Nat.le_refl _) _
  obtain ⟨-, h3, h4, h5, h6⟩ := h
  have hlt := hown.lt
  have hne : ∀ b, b < B → v.ownBlock ≠ some b := fun b hb e => by have := (hlt b e).1; omega
  have hz2 : W1.heap.size ≤ w2.heap.size := by have := hg.size; simp at this; omega
  have hold : ∀ b, b < B → b < W1.heap.size → w2.heap[b]? = W1.heap[b]? := fun b hb hbl => (hg.block b (by simp; omega) (fun e => hne b hb e.symm)).trans (Below.heap_alloc _ _ _ hbl)
  have b0 : Boxed w2 w.heap.size 36 v := (hold _ (by omega) (Array.getElem?_eq_some_iff.1 (boxed_below hv hb1)).1).trans (boxed_below hv hb1)
  have b1 : Boxed w2 (w.heap.size + 1) 31 (.int .i64 0) := (hold _ (by omega) (Array.getElem?_eq_some_iff.1 (boxed_below h3 hb1)).1).trans (boxed_below h3 hb1)
  have b2 : Boxed w2 (w.heap.size + 1 + 1) 3 (.int .i64 0) := (hold _ (by omega) (Array.getElem?_eq_some_iff.1 (boxed_below h4 hb1)).1).trans (boxed_below h4 hb1)
  have hown1 := own_below hown hb1
  have hgs := grown_set w2 w.heap.size 0 v'
  have hnot : ∀ {n' size' B' : Nat} {u : Value} {ys : List Value}, w2.ownsRow B' 9 size' u n' ys → u.ownBlock = none ∨ u.ownBlock ≠ some w.heap.size := by
    intro n' size' B' u ys hu
    rcases hu.2 with ⟨rfl, _⟩ | ⟨g, cap, cur, rfl, _, hgb, _⟩
    · exact .inl rfl
    · refine .inr (fun e => ?_)
      injection e with e
      simp only at e
      subst e
      rw [show w2.heap[w.heap.size]? = _ from b0] at hgb
      injection hgb with hgb
      injection hgb with _ hgb
      exact absurd hgb (by decide)
  refine ⟨?_, ⟨v', n + 1, b0.set v', xs ++ [⟨(x.1 : Int), .slice (some ⟨W.heap.size, 0, none⟩) (Lib.fields x.2).length (Lib.fields x.2).length, (Lib.fields x.2).map toB⟩], by simp [hn], ?_, ?_, ?_⟩, b1.other (by omega) _, b2.other (by omega) _, ?_, fine_here h6 hx⟩
  · refine KeepsOthers.from ?_ D
    refine ((KeepsOthers.of_grownBy (grown_of_below hb1) (fun j o e => by cases e)).trans ((KeepsOthers.alloc W1 ob).trans (KeepsOthers.of_grownBy hg (fun j o ej hj => ?_)))).trans (KeepsOthers.setCell _ _ _)
    rcases (hown1.alloc ob).2 with ⟨rfl, _⟩ | ⟨g, cap, cur, rfl, _, hgb, _⟩
    · simp [Value.ownBlock] at ej
    · simp only [Value.ownBlock, Option.some.injEq] at ej
      subst ej
      rw [hgb] at hj
      cases hj
      rfl
  · rw [gather_add, lineOf_some hf]
    unfold toldL at htold ⊢
    rw [List.map_append, List.map_append, htold]
    rfl
  · have h1 : (xs ++ [(⟨(x.1 : Int), .slice (some ⟨W.heap.size, 0, none⟩) (Lib.fields x.2).length (Lib.fields x.2).length, (Lib.fields x.2).map toB⟩ : Ln)]).flatMap Ln.cells = xs.flatMap Ln.cells ++ [.int .i64 (x.1 : Int), .slice (some ⟨W.heap.size, 0, none⟩) (Lib.fields x.2).length (Lib.fields x.2).length] := by simp [Ln.cells]
    rw [h1]
    exact ho.kept hgs (.inr (fun e => by have := (ho.lt _ e).1; omega))
  · intro y hy
    rcases List.mem_append.1 hy with hy | hy
    · obtain ⟨B', hB'⟩ := hws y hy
      have e1 := own_below hB' hb1
      have e2 := (e1.alloc ob).kept hg (own_ne e1 hown1 (by decide))
      exact ⟨B', e2.kept hgs (hnot e2)⟩
    · obtain rfl := List.mem_singleton.1 hy
      have e2 := (hwo.alloc ob).kept hg (own_ne hwo hown1 (by decide))
      exact ⟨W.heap.size, by simpa using e2.kept hgs (hnot e2)⟩
  · have e1 : Below w.heap.size w W1 := h5.trans (hb1.mono h5.size)
    have e2 : Below w.heap.size w w2 := (e1.alloc e1.size ob).grown hg (by have := e1.size; simp; omega) (fun k hk => by have := (hlt k hk).1; omega)
    exact e2.setCell (p := ⟨w.heap.size, 0, none⟩) (Nat.le_refl _) _
theorem LnsAt.set {W : World} {B n b : Nat} {l : List (Int × List ByteArray)} {v u u' : Value} {t : TypeId} (h : LnsAt W B l n v) (hb : Boxed W b t u) (ht : t ≠ 50 ∧ t ≠ 9) : LnsAt (W.setCell ⟨b, 0, none⟩ u') B l n v := by
  have hnot : ∀ {n' size' B' : Nat} {e : TypeId} {x : Value} {ys : List Value}, t ≠ e → W.ownsRow B' e size' x n' ys → x.ownBlock = none ∨ x.ownBlock ≠ some b := by
    intro n' size' B' e x ys hne hu
    rcases hu.2 with ⟨rfl, _⟩ | ⟨g, cap, cur, rfl, _, hgb, _⟩
    · exact .inl rfl
    · refine .inr (fun e => ?_)
      injection e with e
      simp only at e
      subst e
      rw [show W.heap[_]? = _ from hb] at hgb
      injection hgb with hgb
      injection hgb with _ hgb
      exact hne hgb
  obtain ⟨xs, h1, h2, h3, h4⟩ := h
  refine ⟨xs, h1, h2, h3.kept (grown_set W b 0 u') (hnot ht.1 h3), fun x hx => ?_⟩
  obtain ⟨B', hB⟩ := h4 x hx
  exact ⟨B', hB.kept (grown_set W b 0 u') (hnot ht.2 hB)⟩
theorem ci_again {w W : World} {B : Nat} {xs : List (Nat × List UInt8)} {v : Value} (h : CI w B xs W) (hv : Boxed W w.heap.size 36 v) : CI w B xs (((W.setCell ⟨w.heap.size, 0, none⟩ v).setCell ⟨w.heap.size + 1, 0, none⟩ (.int .i64 0)).setCell ⟨w.heap.size + 1 + 1, 0, none⟩ (.int .i64 0)) := by
  obtain ⟨⟨v', n, h1, h2⟩, h3, h4, h5, h6⟩ := h
  obtain rfl : v' = v := by
    have e := Option.some.inj (h1.cell.symm.trans hv.cell)
    exact e
  have a1 := h1.set v'
  have a3 := h3.other (B' := w.heap.size) (by omega) v'
  have a4 := h4.other (B' := w.heap.size) (by omega) v'
  have a2 := h2.set (u' := v') h1 ⟨by decide, by decide⟩
  have b1 := a1.other (B' := w.heap.size + 1) (by omega) (.int .i64 0)
  have b3 := a3.set (.int .i64 0)
  have b4 := a4.other (B' := w.heap.size + 1) (by omega) (.int .i64 0)
  have b2 := a2.set (u' := .int .i64 0) a3 ⟨by decide, by decide⟩
  have c1 := b1.other (B' := w.heap.size + 1 + 1) (by omega) (.int .i64 0)
  have c3 := b3.other (B' := w.heap.size + 1 + 1) (by omega) (.int .i64 0)
  have c4 := b4.set (.int .i64 0)
  have c2 := b2.set (u' := .int .i64 0) b4 ⟨by decide, by decide⟩
  exact ⟨⟨v', n, c1, c2⟩, c3, c4, ((h5.setCell (p := ⟨w.heap.size, 0, none⟩) (Nat.le_refl _) _).setCell (p := ⟨w.heap.size + 1, 0, none⟩) (Nat.le_succ _) _).setCell (p := ⟨w.heap.size + 1 + 1, 0, none⟩) (by simp only []; omega) _, h6⟩
end Go.Proofs.YtckbdnkonccmiaaDoor
namespace Go.Proofs.YtckbdnkonccmiaaDoor
open Go.RowKit Go.Shelf
attribute [local go_sem] Oper.semAt_some
/-- what Lines hands back -/
def LinesIs (l : List UInt8) (o : Option (Int × Int)) (w : World) (e : Ending) (w' : World) : Prop :=
  match o with
  | some (k, no) => e = .returned (.tuple #[.slice none 0 0, .int .i64 k, .int .i64 no]) ∧ Below w.heap.size w w'
  | none => ∃ A n c, e = .returned (.tuple #[.slice A n c, .int .i64 0, .int .i64 0]) ∧ LnsAt w' w.heap.size (toldL (textL l)) n (.slice A n c) ∧ Below w.heap.size w w'
theorem words_bad_any (w : World) (l : List UInt8) (no k : Int) (hs : l.length ≤ 1000000) (ht : Tab w) (hk : wordsE l = some k) :
    Calls Tryd.prog 68 #[.string (toB l), .int .i64 no] w fun e w' => e = .panicked (faultC k no) ∧ Below w.heap.size w w' := by
  refine (words_any w (toB l) no (by rw [toB_size]; omega) ht).mono ?_
  intro e w' h
  unfold WordsIs at h
  rw [toB_list, hk] at h
  exact h
theorem words_fine_any (w : World) (l : List UInt8) (no : Int) (hs : l.length ≤ 1000000) (ht : Tab w) (hk : wordsE l = none) :
    Calls Tryd.prog 68 #[.string (toB l), .int .i64 no] w fun e w' => e = .returned (.slice (some ⟨w.heap.size, 0, none⟩) (Lib.fields l).length (Lib.fields l).length) ∧ w.alloc (.cells ((Lib.fields l).map strV).toArray 9) = w' := by
  refine (words_any w (toB l) no (by rw [toB_size]; omega) ht).mono ?_
  intro e w' h
  unfold WordsIs at h
  rw [toB_list, hk] at h
  exact h
theorem caught_start (l : List UInt8) (w W0 : World) (hW : (((w.alloc (.cells #[.slice none 0 0] 36)).alloc (.cells #[.int .i64 0] 31)).alloc (.cells #[.int .i64 0] 3)).alloc (.cells #[.string (toB l)] 9) = W0) :
    W0.heap.size = w.heap.size + 4 ∧ CI w W0.heap.size [] W0 ∧ W0.heap[w.heap.size + 1 + 1 + 1]? = some (.cells #[.string (toB l)] 9 (0, 0)) := by
  subst hW
  refine ⟨by simp, ⟨⟨.slice none 0 0, 0, ?_, LnsAt.nil _ _⟩, ?_, ?_, ?_, rfl⟩, ?_⟩
  · exact (((Boxed.new w 36 (.slice none 0 0)).alloc _).alloc _).alloc _
  · have := Boxed.new (w.alloc (.cells #[.slice none 0 0] 36)) 31 (.int .i64 0)
    rw [World.size_alloc] at this
    exact (this.alloc _).alloc _
  · have := Boxed.new ((w.alloc (.cells #[.slice none 0 0] 36)).alloc (.cells #[.int .i64 0] 31)) 3 (.int .i64 0)
    rw [World.size_alloc, World.size_alloc] at this
    exact this.alloc _
  · exact ((((Below.refl _ _).alloc (Nat.le_refl _) _).alloc (by simp) _).alloc (by simp; omega) _).alloc (by simp; omega) _
  · have := Boxed.new (((w.alloc (.cells #[.slice none 0 0] 36)).alloc (.cells #[.int .i64 0] 31)).alloc (.cells #[.int .i64 0] 3)) 9 (.string (toB l))
    rw [World.size_alloc, World.size_alloc, World.size_alloc] at this
    exact this
theorem heap_setCells {w W : World} {D : Nat} {t0 t1 t2 : TypeId} {v0 v1 v2 : Value} {o : List Deferred} (h : W.heap[D]? = some (.deferred (some o))) (h0 : Boxed W w.heap.size t0 v0) (h1 : Boxed W (w.heap.size + 1) t1 v1) (h2 : Boxed W (w.heap.size + 1 + 1) t2 v2) (x y z : Value) :
    (((W.setCell ⟨w.heap.size, 0, none⟩ x).setCell ⟨w.heap.size + 1, 0, none⟩ y).setCell ⟨w.heap.size + 1 + 1, 0, none⟩ z).heap[D]? = some (.deferred (some o)) := by
  rw [heap_setCell_other _ _ D _ (fun e => ?_), heap_setCell_other _ _ D _ (fun e => ?_), heap_setCell_other _ _ D _ (fun e => ?_)]
  · exact h
  · simp only at e; subst e; rw [show W.heap[_]? = _ from h0] at h; cases h
  · simp only at e; subst e; rw [show W.heap[_]? = _ from h1] at h; cases h
  · simp only at e; subst e; rw [show W.heap[_]? = _ from h2] at h; cases h
theorem results_three {P : Program} {fn : Func} {p q r : Tmp} {t1 t2 t3 : TypeId} (h : fn.results = #[.cell p t1, .cell q t2, .cell r t3]) (tmps : Array Value) (w : World) {a b c : Addr} {x y z : Value}
    (hp : tmps.getD p undef = .pointer (some a)) (hq : tmps.getD q undef = .pointer (some b)) (hr : tmps.getD r undef = .pointer (some c)) (hx : w.cell? a = some x) (hy : w.cell? b = some y) (hz : w.cell? c = some z)
    (h1 : ∀ w, (isAgg t1).run P w = .ok false w) (h2 : ∀ w, (isAgg t2).run P w = .ok false w) (h3 : ∀ w, (isAgg t3).run P w = .ok false w) : (results fn tmps).run P w = .ok (.tuple #[x, y, z]) w := by
  have hp' : tmps[p]?.getD undef = .pointer (some a) := by simpa using hp
  have hq' : tmps[q]?.getD undef = .pointer (some b) := by simpa using hq
  have hr' : tmps[r]?.getD undef = .pointer (some c) := by simpa using hr
  simp [results, h, hp', hq', hr', asAddr, go_sem, hx, hy, hz, h1, h2, h3]
set_option maxRecDepth 100000 in
set_option maxHeartbeats 2000000 in
theorem caught_any (w : World) (l : List UInt8) (hl : l.length ≤ 1000000) (ht : Tab w) :
    Calls Tryd.prog 52 #[.string (toB l)] w (LinesIs l (firstBad (itemsOf l)) w) := by
  have hmf : ∀ (fn : Fn) (first cap : Array Value) (w : World), (Instr.makeFunc fn first cap).run Tryd.prog w = .ok (.func fn first cap) w := fun _ _ _ _ => rfl
  refine Ranged.calls_of_wpAt (n := 3) Tryd.func52 rfl ?_
  simp only [Tryd.ntmps52, List.size_toArray, List.length_cons, List.length_nil, Nat.reduceAdd, Nat.reduceSub, Array.replicate_succ, Array.replicate_zero, List.push_toArray, List.append_toArray, List.nil_append, List.cons_append]
  refine Ranged.wpAt_seq_in (n := 3) ?_
  gi_wp2
  refine Ranged.wpAt_seq_in (n := 3) ?_
  gi_wp2
  refine Ranged.wpAt_seq (Ranged.wpAt_seq_in (n := 3) ?_)
  gi_wp2_with (refine ⟨trivial, ?_⟩; gi_at_call 67; refine (callsIn_wide.2 (numbered_any (toB l) _)).mono ?_; rintro e w1 ⟨rfl, rfl⟩)
  obtain ⟨W0, hW⟩ : ∃ W0, (((w.alloc (.cells #[.slice none 0 0] 36)).alloc (.cells #[.int .i64 0] 31)).alloc (.cells #[.int .i64 0] 3)).alloc (.cells #[.string (toB l)] 9) = W0 := ⟨_, rfl⟩
  obtain ⟨hz, hI0, hbx⟩ := caught_start l w W0 hW
  have hsm := itemsOf_small l
  try simp only [World.size_alloc]
  rw [hW]
  clear hW
  refine Ranged.wpAt_block ?_
  refine Ranged.wp_range (n := 3) (α := Nat × List UInt8) (gf := 81) (lb := #[.pointer (some ⟨w.heap.size + 1 + 1 + 1, 0, none⟩)]) Tryd.func52 rfl (enters_of Tryd.func81 (by kernel_rfl) rfl)
    (numbered_iter l hl (w.heap.size + 1 + 1 + 1) W0 hbx 3) (fun _ => rfl) (CI w W0.heap.size) (CB w l) (ci_own w _ _ (by omega)) (cb_own w l _ (by omega)) hI0
    (fun x => ⟨#[.string (toB l), undef, .pointer (some ⟨w.heap.size, 0, none⟩), .pointer (some ⟨w.heap.size + 1, 0, none⟩), .pointer (some ⟨w.heap.size + 1 + 1, 0, none⟩), .int .i64 (x.1 : Int), .string (toB x.2), undef,
      .func (.func 66) #[] #[.pointer (some ⟨w.heap.size, 0, none⟩), .pointer (some ⟨w.heap.size + 1, 0, none⟩), .pointer (some ⟨w.heap.size + 1 + 1, 0, none⟩)], .string (toB l),
      .func (.func 81) #[] #[.pointer (some ⟨w.heap.size + 1 + 1 + 1, 0, none⟩)], .int .i64 (x.1 : Int), .string (toB x.2), undef, undef, undef, undef, undef, undef, undef, undef, undef, undef, undef, undef, undef], []⟩) ?assign ?body ?done ?panic
  case assign =>
    rintro lp x W K hK
    simp only [encItem]
    gi_wp2
    exact hK
  case body =>
    rintro lp pre x W hWz hi ⟨post, hp⟩
    have hT : Tab W := ht.below hi.2.2.2.1 (Nat.le_refl _)
    have hxl : x.2.length ≤ 1000000 := by
      have := hsm.2 x (by rw [hp]; simp)
      omega
    have hpl : pre.length ≤ 1000000 := by
      have h1 := hsm.1
      rw [hp, List.length_append, List.length_cons] at h1
      omega
    obtain ⟨no, t⟩ := x
    simp only at hxl
    cases hwe : wordsE t with
    | some k =>
      have HB := Lib.hid (words_bad_any W t (no : Int) k hxl hT hwe)
      have HI := Lib.hid hi
      have HP := Lib.hid hp
      have HW := Lib.hid hwe
      clear hi hp hwe hI0 hbx
      gi_wp2_with (refine ⟨trivial, ?_⟩; gi_at_call 68; refine (CallsIn.inRound lp (callsIn_wide.2 HB.out)).mono ?_; rintro e w1 ⟨rfl, hb1⟩)
      exact ⟨rfl, keeps_of_below hb1 _, ci_bad HI.out HP.out HW.out hb1⟩
    | none =>
      have HC0 := words_fine_any W t (no : Int) hxl hT hwe
      have hfl := (wordsE_none hwe).1
      obtain ⟨F, hF⟩ : ∃ F, F = Lib.fields t := ⟨_, rfl⟩
      rw [← hF] at HC0 hfl
      have HC := Lib.hid HC0
      have HI := Lib.hid hi
      have HW := Lib.hid hwe
      by_cases hF0 : F = []
      · have hl0 : ¬ (0 : Int) < (F.length : Int) := by rw [hF0]; simp
        have HF0 := Lib.hid (show Lib.fields t = [] by rw [← hF, hF0])
        clear hi hp hwe hI0 hbx hF hF0 HC0
        gi_wp2_with (refine ⟨trivial, ?_⟩; gi_at_call 68; refine (CallsIn.inRound lp (callsIn_wide.2 HC.out)).mono ?_; rintro e w1 ⟨rfl, hw1⟩; have hb1 : Below W.heap.size W w1 := (by rw [← hw1]; exact (Below.refl _ _).alloc (Nat.le_refl _) _); have HB1 := Lib.hid hb1; clear hb1 hw1)
        exact ⟨keeps_of_below HB1.out _, ci_skip HI.out HW.out HF0.out HB1.out⟩
      · have hl0 : (0 : Int) < (F.length : Int) := by
          have := List.length_pos_iff.2 hF0
          omega
        obtain ⟨i0, hi0, hz0, hz1, hz2⟩ := line_parts
        obtain ⟨⟨v, n, hv, xs, hn, htold, hown, hws⟩, -, -, -, -⟩ := hi
        have hn1 : n ≤ 1000000 := by
          have h1 := gather_len pre
          have h2 : xs.length = (gather pre).length := by rw [← List.length_map (f := Ln.told), htold]; simp [toldL]
          omega
        have HV := Lib.hid hv
        have HTO := Lib.hid htold
        have HOW := Lib.hid hown
        have HWS := Lib.hid hws
        have HF := Lib.hid hF
        have HN := Lib.hid hn
        have HF0 := Lib.hid (show ¬ Lib.fields t = [] by rw [← hF]; exact hF0)
        have hzB : w.heap.size + 1 + 1 < W0.heap.size := by omega
        have h63 : n + 1 ≤ maxLen := by simp only [maxLen]; omega
        have h32 : (n + 1) * 32 ≤ 140737488355328 := by omega
        clear hp hwe hI0 hbx hF hF0 HC0 hv htold hown hws hn hz
        gi_wp2_with (first | (refine ⟨trivial, ?_⟩; gi_at_call 68; refine (CallsIn.inRound lp (callsIn_wide.2 HC.out)).mono ?_; rintro e w1 ⟨rfl, hw1⟩; have hb1 : Below W.heap.size W w1 := (by rw [← hw1]; exact (Below.refl _ _).alloc (Nat.le_refl _) _); have k0 : w1.cell? ⟨w.heap.size, 0, none⟩ = some v := (boxed_below HV.out hb1).cell; have HW1 := Lib.hid hw1; have HB1 := Lib.hid hb1; have hlw : W.heap.size ≤ w1.heap.size := hb1.size; clear hb1 hw1) | (gi_at_builtin; refine wpListIn_append_own _ rfl _ _ 36 rfl W0.heap.size 50 i0 _ 2 32 Tryd.underlying36 hi0 hz0 hz1 hz2 rfl (by decide) v n _ rfl ((own_below HOW.out HB1.out).alloc _) ⟨w1.heap.size, 0, none⟩ 1 1 [.int .i64 (no : Int), .slice (some ⟨W.heap.size, 0, none⟩) F.length F.length] rfl rfl (World.news_of_block (heap_alloc_new w1 _)) (one_line _ _ _ _) h63 h32 (by simp; omega) ?_; intro v' w2 ho hg _; obtain ⟨A', c', rfl⟩ := own_form ho; have hbx2 := ci_box hzB HV.out HOW.out HB1.out hg; have k2 := hbx2.cell; have f2 := hbx2.frozen; have HO := Lib.hid ho; have HG := Lib.hid hg; clear ho hg hbx2 k0))
        have ho := HO.out
        have hg := HG.out
        have hw1 := HW1.out
        rw [HF.out] at ho hw1
        exact ci_more (x := (no, t)) hzB HI.out HV.out xs HN.out HTO.out HOW.out HWS.out HW.out HF0.out hw1 ho hg W0.heap.size (by omega)
  case done =>
    rintro D W hD hi hK
    have HI := Lib.hid hi
    have HK := Lib.hid hK
    have HZ := Lib.hid hz
    obtain ⟨⟨v, n, hv, hL⟩, h3, h4, h5, h6⟩ := hi
    obtain ⟨A, c, rfl⟩ : ∃ A c, v = .slice A n c := by obtain ⟨xs, -, -, ho, -⟩ := hL; exact own_form ho
    have k0 : W.cell? ⟨w.heap.size, 0, none⟩ = some (.slice A n c) := hv.cell
    have k1 : W.cell? ⟨w.heap.size + 1, 0, none⟩ = some (.int .i64 0) := h3.cell
    have k2 : W.cell? ⟨w.heap.size + 1 + 1, 0, none⟩ = some (.int .i64 0) := h4.cell
    have z0 : W.frozen? ⟨w.heap.size, 0, none⟩ = false := hv.frozen
    have z1 : W.frozen? ⟨w.heap.size + 1, 0, none⟩ = false := h3.frozen
    have z2 : W.frozen? ⟨w.heap.size + 1 + 1, 0, none⟩ = false := h4.frozen
    have HV := Lib.hid hv
    have HL := Lib.hid hL
    have H3 := Lib.hid h3
    have H4 := Lib.hid h4
    have H5 := Lib.hid h5
    have H6 := Lib.hid h6
    clear hI0 hbx hv hL h3 h4 h5 h6 hK hz
    simp only [Exit.inBlock, Exit.then]
    refine Ranged.wpAt_of (n := 3) ?_
    gi_wp2
    have hK2 := heap_setCells HK.out HV.out H3.out H4.out (.slice A n c) (.int .i64 0) (.int .i64 0)
    have hI2 := ci_again HI.out HV.out
    generalize ((W.setCell ⟨w.heap.size, 0, none⟩ (.slice A n c)).setCell ⟨w.heap.size + 1, 0, none⟩ (.int .i64 0)).setCell ⟨w.heap.size + 1 + 1, 0, none⟩ (.int .i64 0) = W2 at *
    have hI3 := (ci_own w W0.heap.size D (by have := HZ.out; omega)).putObj (.deferred none) hI2 (Nat.le_refl _) hK2 rfl
    refine ⟨by simp, .inl ⟨_, _, rfl, run_takeDeferred hK2, ?_⟩⟩
    refine ⟨by simp, .inr ⟨fun h => absurd h (by decide), .func 66, #[.pointer (some ⟨w.heap.size, 0, none⟩), .pointer (some ⟨w.heap.size + 1, 0, none⟩), .pointer (some ⟨w.heap.size + 1 + 1, 0, none⟩)], 66, #[.pointer (some ⟨w.heap.size, 0, none⟩), .pointer (some ⟨w.heap.size + 1, 0, none⟩), .pointer (some ⟨w.heap.size + 1 + 1, 0, none⟩)], rfl, ?_, fun _ _ => trivial, ?_⟩⟩
    · simp [invoke, go_sem]
    refine (catch_none w.heap.size _ 2).mono ?_
    rintro e u' w' ⟨rfl, rfl, rfl⟩
    have hI4 := (ci_own w W0.heap.size D (by have := HZ.out; omega)).alloc (.cells #[.int .i64 0, .int .i64 0] 104) hI3
    generalize (W2.putObj D (.deferred none)).alloc (.cells #[.int .i64 0, .int .i64 0] 104) = W4 at *
    obtain ⟨⟨v4, n4, hv4, hL4⟩, h34, h44, h54, h64⟩ := hI4
    obtain ⟨A4, c4, rfl⟩ : ∃ A c, v4 = .slice A n4 c := by obtain ⟨xs, -, -, ho, -⟩ := hL4; exact own_form ho
    refine ⟨_, results_three rfl _ _ rfl rfl rfl hv4.cell h34.cell h44.cell Tryd.isAgg36 Tryd.isAgg31 Tryd.isAgg3, ?_⟩
    unfold LinesIs
    rw [h64]
    exact ⟨A4, n4, c4, rfl, hL4.mono (by have := HZ.out; omega), h54⟩
  case panic =>
    rintro D ch W hD hb hK
    have HZ := Lib.hid hz
    obtain ⟨k, no, v, rfl, h1, h2, h3, h4, h5⟩ := hb
    have hB := (cb_own w l D (by omega)).putObj (.deferred none) ⟨k, no, v, rfl, h1, h2, h3, h4, h5⟩ (Nat.le_refl _) hK rfl
    obtain ⟨k', no', v', hch, h1', h2', h3', h4', h5'⟩ := hB
    simp only [Exit.inBlock, Exit.then]
    refine ⟨by simp, .inl ⟨_, _, rfl, run_takeDeferred hK, ?_⟩⟩
    refine ⟨by simp, .inr ⟨fun h => absurd h (by decide), .func 66, #[.pointer (some ⟨w.heap.size, 0, none⟩), .pointer (some ⟨w.heap.size + 1, 0, none⟩), .pointer (some ⟨w.heap.size + 1 + 1, 0, none⟩)], 66, #[.pointer (some ⟨w.heap.size, 0, none⟩), .pointer (some ⟨w.heap.size + 1, 0, none⟩), .pointer (some ⟨w.heap.size + 1 + 1, 0, none⟩)], rfl, ?_, fun _ _ => trivial, ?_⟩⟩
    · simp [invoke, go_sem]
    refine (catch_fault w.heap.size k no _ _ _ _ h2' h3' h4' 2).mono ?_
    rintro e u' w' ⟨rfl, rfl, ht0, ht1, ht2, htb⟩
    refine ⟨_, results_three rfl _ _ rfl rfl rfl ht0 ht1 ht2 Tryd.isAgg36 Tryd.isAgg31 Tryd.isAgg3, ?_⟩
    unfold LinesIs
    rw [h1]
    exact ⟨rfl, h5'.trans htb⟩
set_option maxRecDepth 100000 in
theorem lines_any (w : World) (l : List UInt8) (hl : l.length ≤ 1000000) (ht : Tab w) :
    Calls Tryd.prog 30 #[.string (toB l)] w (LinesIs l (textE l) w) := by
  by_cases h : 4096 < l.length
  · have HE : Hid (textE l = some (2, 0)) := Lib.hid (by unfold textE; rw [if_pos h])
    have hs : (4096 : Int) < ((toB l).size : Int) := by rw [toB_size]; omega
    go_enter Tryd.func30, Tryd.ntmps30
    go_wp2_with fail
    go_ret3
    unfold LinesIs
    rw [HE.out]
    exact ⟨rfl, Below.refl _ _⟩
  · have HE : Hid (textE l = firstBad (itemsOf l)) := Lib.hid (by unfold textE; rw [if_neg h])
    have hs : ¬ (4096 : Int) < ((toB l).size : Int) := by rw [toB_size]; omega
    rw [HE.out]
    unfold LinesIs
    rcases e : firstBad (itemsOf l) with _ | ⟨k, no⟩
    · have HC := caught_any w l hl ht
      unfold LinesIs at HC
      rw [e] at HC
      have HC' := Lib.hid HC
      clear HC ht h HE
      go_enter Tryd.func30, Tryd.ntmps30
      go_wp2_with (go_at_call 52; refine (HC'.out).mono ?_; rintro e w1 ⟨A, n, c, rfl, h1, h2⟩; have H1 := Lib.hid h1; have H2 := Lib.hid h2; clear h1 h2)
      go_ret3
      exact ⟨A, n, c, rfl, H1.out, H2.out⟩
    · have HC := caught_any w l hl ht
      unfold LinesIs at HC
      rw [e] at HC
      have HC' := Lib.hid HC
      clear HC ht h HE
      go_enter Tryd.func30, Tryd.ntmps30
      go_wp2_with (go_at_call 52; refine (HC'.out).mono ?_; rintro e w1 ⟨rfl, h2⟩; have H2 := Lib.hid h2; clear h2)
      go_ret3
      exact ⟨rfl, H2.out⟩
end Go.Proofs.YtckbdnkonccmiaaDoor
