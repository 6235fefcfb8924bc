/-
  THE WALK of lex.words: the words of a line, or what is wrong with it, as a panic.
-/
import Derived.Test.YtpoihpehdlogbaaDoorLexPlain
import Derived.Test.YtpoihpehdlogbaaDoorShelf
import Derived.WalkLawsBesides
namespace Go.Proofs.YtpoihpehdlogbaaDoor
open Go.RowKit
/-- the table of blanks lies as it was laid -/
def Tab (w : World) : Prop := Lib.TabIs Tryd.prog w ("strings.asciiSpace") .u8 Lib.asciiSpaceTab
theorem tab_named : ∃ g, Tryd.prog.globalNamed ("strings.asciiSpace") = some g := by
  cases e : Tryd.prog.globalNamed ("strings.asciiSpace") with
  | some g => exact ⟨g, rfl⟩
  | none => exact absurd (show (Tryd.prog.globalNamed ("strings.asciiSpace")).isSome = true by kernel_rfl) (by rw [e]; decide)
theorem Tab.below {w w' : World} {B : Nat} (h : Tab w) (hb : Below B w w') (hB : w.heap.size ≤ B) : Tab w' := by
  obtain ⟨g, hg⟩ := tab_named
  unfold Tab Lib.TabIs World.var? at h ⊢
  rw [hg] at h ⊢
  simp only [Option.bind_some] at h ⊢
  have hlt : g < w.heap.size := by
    rcases Nat.lt_or_ge g w.heap.size with h' | h'
    · exact h'
    · rw [Array.getElem?_eq_none h'] at h; cases h
  rw [hb.block g (by omega)]
  exact h
def strV (l : List UInt8) : Value := .string ⟨l.toArray⟩
/-- a fault, as it panics -/
def faultC (k no : Int) : List PanicEntry := [{ v := .iface 51 (.agg #[.int .i64 k, .int .i64 no]), recovered := false }]
/-- what words hands back, or panics with -/
def WordsIs (l : List UInt8) (no : Int) (w : World) (e : Ending) (w' : World) : Prop :=
  match wordsE l with
  | some k => e = .panicked (faultC k no) ∧ Below w.heap.size w w'
  | none => e = .returned (.slice (some ⟨w.heap.size, 0, none⟩) (Lib.fields l).length (Lib.fields l).length) ∧ w.alloc (.cells ((Lib.fields l).map strV).toArray 9) = w'
theorem words_bad {l : List UInt8} {no k : Int} {w w' : World} (h : wordsE l = some k) (hb : Below w.heap.size w w') : WordsIs l no w (.panicked (faultC k no)) w' := by
  unfold WordsIs; rw [h]; exact ⟨rfl, hb⟩
theorem words_fine {l : List UInt8} {no : Int} {w w' : World} (h : wordsE l = none) (hw : w.alloc (.cells ((Lib.fields l).map strV).toArray 9) = w') : WordsIs l no w (.returned (.slice (some ⟨w.heap.size, 0, none⟩) (Lib.fields l).length (Lib.fields l).length)) w' := by
  unfold WordsIs; rw [h]; exact ⟨rfl, hw⟩
theorem all_ok {l : List UInt8} (h : l.all okB = true) : wordsE l = if (Lib.fields l).any longB = true then some 72 else if 14 < (Lib.fields l).length then some 2 else none := by
  unfold wordsE; rw [if_pos h]
theorem not_ok {l : List UInt8} (h : l.all okB = false) : wordsE l = some 71 := by
  unfold wordsE; rw [if_neg (by rw [h]; decide)]
theorem field_cell {w : World} {l : List (List UInt8)} {k : Nat} {x : List UInt8} (hx : l[k]? = some x) : (w.alloc (.cells (l.map strV).toArray 9)).cell? ⟨w.heap.size, k, none⟩ = some (strV x) := by
  have := World.cell?_alloc_new w (l.map strV).toArray 9 k
  rw [this]
  simp [hx]
theorem no_long {l : List (List UInt8)} (h : Upto (fun _ w => longB w = false) l l.length) : l.any longB = false := by
  rw [List.any_eq_false]
  intro x hx
  obtain ⟨i, hi⟩ := List.getElem?_of_mem hx
  simpa using upto_all h i x hi
theorem byte_ne {c d : UInt8} (h : ¬ c = d) (n : Int) (hn : n = (d.toNat : Int)) : ((c.toNat : Int) != n) = true := by
  rw [bne_iff_ne]
  intro e
  exact h (UInt8.toNat_inj.1 (by omega))
theorem longB_no {w : List UInt8} (h : longB w = false) : ¬ 16 < (w.length : Int) := by
  unfold longB at h
  have := of_decide_eq_false h
  omega
theorem longB_yes {w : List UInt8} (h : longB w = true) : 16 < (w.length : Int) := by
  unfold longB at h
  have := of_decide_eq_true h
  omega
theorem any_long {l : List (List UInt8)} {k : Nat} {x : List UInt8} (hx : l[k]? = some x) (h : longB x = true) : l.any longB = true := by
  rw [List.any_eq_true]
  exact ⟨x, List.mem_of_getElem? hx, h⟩
set_option maxRecDepth 100000 in
theorem words_any (w : World) (s : ByteArray) (no : Int) (hs : s.size ≤ 1125899906842624 ∧ s.size < 4294967281) (ht : Tab w) :
    Calls Tryd.prog 22 #[.string s, .int .i64 no] w (WordsIs s.data.toList no w) := by
  have HT := Lib.hid ht
  obtain ⟨hs, hs2⟩ := hs
  clear ht
  go_enter Tryd.func22, Tryd.ntmps22
  go_wp2_with fail
  go_loopw [11] (fun i wr => ∃ k : Nat, k ≤ s.size ∧ i = .int .i64 k ∧ Hid (Upto (fun _ c => okB c = true) s.data.toList k) ∧ Hid (w = wr)) (fun i _ => s.size - (intOf i).toNat)
  case atStart => exact ⟨0, Nat.zero_le _, rfl, Lib.hid (upto_zero _ _), Lib.hid rfl⟩
  case round =>
    obtain ⟨k, hk, rfl, HU, HW⟩ := hrel
    by_cases hlt : k < s.size
    · obtain ⟨c, hc⟩ := string_at hlt
      have hix := fun w => index_at (P := Tryd.prog) (t := 9) (by go_side) hc w
      have HC := Lib.hid hc
      have hk1 : (k : Int) < (s.size : Int) := by omega
      clear hc
      by_cases h32 : c = 32
      · have HO := Lib.hid (show okB c = true by subst h32; rfl)
        have h33 : (c.toNat : Int) = 32 := by subst h32; rfl
        clear h32
        generalize (c.toNat : Int) = n at *
        subst h33
        go_wp2_with fail
        go_roundw
        case rel => exact ⟨k + 1, by omega, by go_num, Lib.hid (upto_step HU.out HC.out HO.out), HW⟩
        case measure => simp [intOf]; omega
      · have h33 : ((c.toNat : Int) != 32) = true := byte_ne h32 32 rfl
        have HE := Lib.hid (show okB c = letterB c by unfold okB; rw [show (c == 32) = false from by simpa using h32]; rfl)
        clear h32
        cases hl : letterB c with
        | false =>
          have HR := Lib.hid (not_ok (all_no HC.out (HE.out.trans hl)))
          have HL := Lib.hid hl
          clear hl
          go_wp2_with (go_at_call 14; refine (lletter_any _ c).mono ?_; rintro e w1 ⟨rfl, rfl⟩; rw [HL.out]; clear hix)
          refine ⟨rfl, ?_⟩
          exact words_bad HR.out (by rw [HW.out]; exact Below.refl _ _)
        | true =>
          have HO := Lib.hid (HE.out.trans hl)
          have HL := Lib.hid hl
          clear hl
          go_wp2_with (go_at_call 14; refine (lletter_any _ c).mono ?_; rintro e w1 ⟨rfl, rfl⟩; rw [HL.out]; clear hix)
          go_roundw
          case rel => exact ⟨k + 1, by omega, by go_num, Lib.hid (upto_step HU.out HC.out HO.out), HW⟩
          case measure => simp [intOf]; omega
    · have hk2 : ¬ (k : Int) < (s.size : Int) := by omega
      have hks : k = s.size := by omega
      have hall : s.data.toList.all okB = true := all_yes (by rw [← hks]; exact HU.out)
      have HR := Lib.hid (all_ok hall)
      have HA := Lib.hid (show ∀ (j : Nat) (b : UInt8), s.data.toList[j]? = some b → b.toNat < 128 from fun j b hj => ok_ascii (List.all_eq_true.1 hall b (List.mem_of_getElem? hj)))
      clear hall hks
      obtain rfl := HW.out
      have hfl := fields_len s.data.toList
      have hsz : s.data.toList.length = s.size := by simp
      rw [hsz] at hfl
      obtain ⟨F, hF⟩ : ∃ F, F = Lib.fields s.data.toList := ⟨_, rfl⟩
      rw [← hF] at hfl
      have HF := Lib.hid hF
      clear hF hsz
      go_wp2_with (go_at_call 26; refine (Tryd.strings_Fields_laid s w hs2 HA.out HT.out).mono ?_; rintro e w1 ⟨rfl, hw1⟩; rw [← HF.out] at hw1; rw [← HF.out]; have HW1 := Lib.hid hw1; clear hw1)
      go_loopw [33] (fun i wr => ∃ k : Nat, k ≤ F.length ∧ i = .int .i64 k ∧ Hid (Upto (fun _ w => longB w = false) F k) ∧ Hid (w1 = wr)) (fun i _ => F.length - (intOf i).toNat)
      case atStart => exact ⟨0, Nat.zero_le _, rfl, Lib.hid (upto_zero _ _), Lib.hid rfl⟩
      case round =>
        obtain ⟨j, hj, rfl, HU2, HW2⟩ := hrel
        by_cases hlt2 : j < F.length
        · obtain ⟨x, hx⟩ : ∃ x, F[j]? = some x := ⟨_, List.getElem?_eq_getElem hlt2⟩
          have hcell : wr.cell? ⟨w.heap.size, j, none⟩ = some (.string ⟨x.toArray⟩) := by rw [← HW2.out, HW1.out]; exact field_cell hx
          have hxl : x.length ≤ s.size := by
            have := fields_mem (l := s.data.toList) (w := x) (by rw [← HF.out]; exact List.mem_of_getElem? hx)
            simpa using this
          have HX := Lib.hid hx
          have hj1 : (j : Int) < (F.length : Int) := by omega
          clear hx
          cases hl : longB x with
          | true =>
            have h16 := longB_yes hl
            have HE := Lib.hid (show wordsE s.data.toList = some 72 by rw [HR.out, ← HF.out, if_pos (any_long HX.out hl)])
            clear hl
            go_wp2_with fail
            refine ⟨rfl, ?_⟩
            exact words_bad HE.out (by rw [← HW2.out, HW1.out]; exact (Below.refl _ _).alloc (Nat.le_refl _) _)
          | false =>
            have h16 := longB_no hl
            have HL := Lib.hid hl
            clear hl
            go_wp2_with fail
            go_roundw
            case rel => exact ⟨j + 1, by omega, by go_num, Lib.hid (upto_step HU2.out HX.out HL.out), HW2⟩
            case measure => simp [intOf]; omega
        · have hj2 : ¬ (j : Int) < (F.length : Int) := by omega
          have hjF : j = F.length := by omega
          have HN := Lib.hid (no_long (l := F) (by rw [← hjF]; exact HU2.out))
          clear hjF
          by_cases h14 : (14 : Int) < (F.length : Int)
          · have HE := Lib.hid (show wordsE s.data.toList = some 2 by rw [HR.out, ← HF.out, if_neg (by rw [HN.out]; decide), if_pos (by omega)])
            go_wp2_with fail
            refine ⟨rfl, ?_⟩
            exact words_bad HE.out (by rw [← HW2.out, HW1.out]; exact (Below.refl _ _).alloc (Nat.le_refl _) _)
          · have HE := Lib.hid (show wordsE s.data.toList = none by rw [HR.out, ← HF.out, if_neg (by rw [HN.out]; decide), if_neg (by omega)])
            go_wp2_with fail
            go_ret
            rw [HF.out]
            exact words_fine HE.out (by rw [← HF.out]; exact HW1.out.symm.trans HW2.out)
end Go.Proofs.YtpoihpehdlogbaaDoor
