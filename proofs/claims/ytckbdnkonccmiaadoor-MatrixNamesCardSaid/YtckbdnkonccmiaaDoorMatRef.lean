/-
  The document's words of a line, walked where nothing is wrong.
  The document's lines of a text, walked where nothing is wrong.
  What the document's lines of a printed text are.
  THE WALK of the document's Print of lines.
-/
import Derived.Test.YtckbdnkonccmiaaDoorLexB
namespace Go.Proofs.YtckbdnkonccmiaaDoor
open Go.RowKit
set_option maxRecDepth 100000 in
theorem rletter_any (w : World) (c : UInt8) :
    Calls Tryd.prog 60 #[.int .u8 c.toNat] w fun e w' => e = .returned (.bool (letterB c)) ∧ w = w' := by
  obtain ⟨ht, hf⟩ := bool_of (letterB_iff c)
  have HT := Lib.hid ht
  have HF := Lib.hid hf
  clear ht hf
  generalize (letterB c) = r at *
  generalize (c.toNat : Int) = n at *
  by_cases h0 : 97 ≤ n
  · by_cases h1 : n ≤ 122
    · obtain rfl := HT.out (.inl ⟨h0, h1⟩)
      go_enter Tryd.func60, Tryd.ntmps60
      go_wp2_with fail
      go_ret
      exact ⟨rfl, rfl⟩
    · obtain rfl := HF.out (by omega)
      have h2 : 48 ≤ n := by omega
      have h3 : ¬ n ≤ 57 := by omega
      go_enter Tryd.func60, Tryd.ntmps60
      go_wp2_with fail
      go_ret
      exact ⟨rfl, rfl⟩
  · by_cases h2 : 48 ≤ n
    · by_cases h3 : n ≤ 57
      · obtain rfl := HT.out (.inr ⟨h2, h3⟩)
        go_enter Tryd.func60, Tryd.ntmps60
        go_wp2_with fail
        go_ret
        exact ⟨rfl, rfl⟩
      · obtain rfl := HF.out (by omega)
        go_enter Tryd.func60, Tryd.ntmps60
        go_wp2_with fail
        go_ret
        exact ⟨rfl, rfl⟩
    · obtain rfl := HF.out (by omega)
      go_enter Tryd.func60, Tryd.ntmps60
      go_wp2_with fail
      go_ret
      exact ⟨rfl, rfl⟩
def inWord (s : ByteArray) (i : Nat) : Bool := match s.data.toList[i]? with | some c => c != 32 | none => false
/-- where the word at hand begins, and the words ahead of it -/
def wst (s : ByteArray) : Nat → Nat × List ByteArray
  | 0 => (0, [])
  | i + 1 => if inWord s i then wst s i else (i + 1, if (wst s i).1 < i then (wst s i).2 ++ [s.extract (wst s i).1 i] else (wst s i).2)
def wordsF (s : ByteArray) : List ByteArray := (wst s (s.size + 1)).2
theorem wst_le (s : ByteArray) : ∀ i, (wst s i).1 ≤ i
  | 0 => Nat.le_refl _
  | i + 1 => by
    unfold wst
    split
    · have := wst_le s i; omega
    · exact Nat.le_refl _
theorem wst_len (s : ByteArray) : ∀ i, (wst s i).2.length ≤ i
  | 0 => Nat.le_refl _
  | i + 1 => by
    have := wst_len s i
    unfold wst
    split
    · omega
    · split
      · simp; omega
      · show (wst s i).2.length ≤ _; omega
theorem wst_in {s : ByteArray} {i : Nat} (h : inWord s i = true) : wst s (i + 1) = wst s i := by
  conv => lhs; unfold wst
  rw [if_pos h]
theorem wst_gap {s : ByteArray} {i : Nat} (h : inWord s i = false) (hf : ¬ (wst s i).1 < i) : wst s (i + 1) = (i + 1, (wst s i).2) := by
  conv => lhs; unfold wst
  rw [h, if_neg (by simp), if_neg hf]
theorem wst_word {s : ByteArray} {i : Nat} (h : inWord s i = false) (hf : (wst s i).1 < i) : wst s (i + 1) = (i + 1, (wst s i).2 ++ [s.extract (wst s i).1 i]) := by
  conv => lhs; unfold wst
  rw [h, if_neg (by simp), if_pos hf]
/-- a line of which nothing is wrong -/
structure LineP (s : ByteArray) : Prop where
  chars : ∀ c ∈ s.data.toList, c ≠ 35 ∧ (c = 32 ∨ letterB c = true)
  small : s.size ≤ 4096
  short : ∀ i, i < s.size + 1 → i - (wst s i).1 ≤ 16
  few : (wordsF s).length ≤ 14
/-- the strings that are gathered lie at vo -/
def StrIs (W0 : World) (l : List ByteArray) (n : Nat) (vo : Value) (wr : World) : Prop :=
  n = l.length ∧ wr.ownsRow W0.heap.size 9 1 vo n (l.flatMap sC) ∧ Below W0.heap.size W0 wr
theorem StrIs.app {W0 wr w2 : World} {n : Nat} {l l' : List ByteArray} {x : ByteArray} {vo v' : Value} {ob : Obj} (h : StrIs W0 l n vo wr)
    (ho : w2.ownsRow W0.heap.size 9 1 v' (n + 1) (l.flatMap sC ++ sC x)) (hg : (wr.alloc ob).grownBy w2 vo.ownBlock) (hl : l' = l ++ [x]) : StrIs W0 l' (n + 1) v' w2 := by
  subst hl
  exact ⟨by simp [h.1], by simpa using ho, (h.2.2.alloc h.2.2.size ob).grown hg (by have := h.2.2.size; simp; omega) (fun k hk => (h.2.1.lt k hk).1)⟩
theorem StrIs.ends {W0 wr : World} {n : Nat} {l : List ByteArray} {vo : Value} (h : StrIs W0 l n vo wr) : StrsAt wr l vo := LawFrame.RowsAt.of_own sC_len (by decide) h.2.1
def RWordsIs (l : List ByteArray) (w : World) (e : Ending) (w' : World) : Prop := ∃ v, e = .returned (.tuple #[v, .int .i64 0]) ∧ (w'.ownsRow w.heap.size 9 1 v l.length (l.flatMap sC)) ∧ Below w.heap.size w w'
set_option maxHeartbeats 4000000 in
set_option maxRecDepth 100000 in
theorem rwords_any (w : World) (s : ByteArray) (hs : LineP s) :
    Calls Tryd.prog 35 #[.string s] w (RWordsIs (wordsF s) w) := by
  obtain ⟨i0, hi0, hz0, hz1, hz2⟩ := string_parts
  have HS := Lib.hid hs
  have hsz := hs.small
  clear hs
  go_enter Tryd.func35, Tryd.ntmps35
  go_wp2_with fail
  go_loopw [5, 6] (fun en i wr => ∃ k : Nat, k ≤ s.size ∧ en = .int .i64 (s.size : Int) ∧ i = .int .i64 ((k : Int) - 1) ∧ Hid (w = wr)) (fun _ i _ => ((intOf i) + 1).toNat)
  case atStart => exact ⟨s.size, Nat.le_refl _, rfl, rfl, Lib.hid rfl⟩
  case round =>
    obtain ⟨k, hk, rfl, rfl, HW⟩ := hrel
    rcases Nat.eq_zero_or_pos k with h0 | h0
    · subst h0
      rw [show (((0 : Nat) : Int) - 1) = -1 from rfl]
      go_wp2_with fail
      go_loopw [7] (fun i wr => ∃ k : Nat, k ≤ s.size ∧ i = .int .i64 (k : Int) ∧ Hid (w = wr)) (fun i _ => s.size - (intOf i).toNat)
      case atStart => exact ⟨0, Nat.zero_le _, rfl, HW⟩
      case round =>
        clear HW
        obtain ⟨k, hk, rfl, HW⟩ := hrel
        by_cases hlt : k < s.size
        · obtain ⟨c, hc⟩ := string_at hlt
          have hix := fun w => index_at (P := Tryd.prog) (t := 9) (by go_side) hc w
          have hk1 : (k : Int) < (s.size : Int) := by omega
          have hcs := (HS.out.chars c (List.mem_of_getElem? hc)).2
          clear hc
          by_cases h32 : (c.toNat : Int) = 32
          · have h1 : ((c.toNat : Int) == 32) = true := by simp only [beq_iff_eq]; exact h32
            have h2 : ((c.toNat : Int) != 32) = false := by rw [bne, h1]; rfl
            clear h32 hcs
            go_wp2_with fail
            go_roundw
            case rel => exact ⟨k + 1, by omega, by go_num, HW⟩
            case measure => simp [intOf]; omega
          · have HLB := Lib.hid (show letterB c = true by
              rcases hcs with e | e
              · exact absurd (by rw [e]; rfl) h32
              · exact e)
            have h1 : ((c.toNat : Int) == 32) = false := by rw [beq_eq_false_iff_ne]; exact h32
            have h2 : ((c.toNat : Int) != 32) = true := by rw [bne, h1]; rfl
            clear h32 hcs
            go_wp2_with fail
            refine (rletter_any _ c).mono ?_
            rintro e w1 ⟨rfl, rfl⟩
            rw [HLB.out]
            go_wp2_with fail
            go_roundw
            case rel => exact ⟨k + 1, by omega, by go_num, HW⟩
            case measure => simp [intOf]; omega
        · have hk2 : ¬ (k : Int) < (s.size : Int) := by omega
          go_wp2_with fail
          clear hk2 hlt hk
          have HI0 : Hid (StrIs w (wst s 0).2 0 (.slice none 0 0) wr) := Lib.hid ⟨rfl, World.ownsRow_nil _ _ _ _, by rw [HW.out]; exact Below.refl _ _⟩
          go_loopw [4, 8, 9] (fun o f i wr => ∃ (k n F : Nat), k ≤ s.size + 1 ∧ i = .int .i64 (k : Int) ∧ f = .int .i64 (F : Int) ∧ (F ≤ k ∧ n ≤ k) ∧ Hid (F = (wst s k).1) ∧ Hid (StrIs w (wst s k).2 n o wr)) (fun _ _ i _ => s.size + 1 - (intOf i).toNat)
          case atStart => exact ⟨0, 0, 0, Nat.zero_le _, rfl, rfl, ⟨Nat.le_refl _, Nat.le_refl _⟩, Lib.hid rfl, HI0⟩
          case round =>
            clear HI0 HW
            obtain ⟨k, n, F, hk, rfl, rfl, hF, HF, HI⟩ := hrel
            by_cases hlt : k < s.size + 1
            · have hk1 : (k : Int) ≤ (s.size : Int) := by omega
              have hsh := HS.out.short k hlt
              rw [← HF.out] at hsh
              have hsh1 : ¬ 16 < (k : Int) - (F : Int) := by omega
              cases hin : inWord s k with
              | true =>
                have HN : Hid ((wst s (k + 1)) = wst s k) := Lib.hid (wst_in hin)
                have hks : k < s.size := by
                  rcases Nat.lt_or_ge k s.size with h | h
                  · exact h
                  · unfold inWord at hin
                    rw [List.getElem?_eq_none (by simpa using h)] at hin
                    cases hin
                obtain ⟨c, hc⟩ := string_at hks
                have hix := fun w => index_at (P := Tryd.prog) (t := 9) (by go_side) hc w
                have hk2 : (k : Int) < (s.size : Int) := by omega
                have h1 : ((c.toNat : Int) == 32) = false := by
                  unfold inWord at hin
                  rw [hc] at hin
                  rw [beq_eq_false_iff_ne]
                  intro e
                  have : c = 32 := UInt8.toNat_inj.1 (by have h9 : (32 : UInt8).toNat = 32 := rfl; omega)
                  rw [this] at hin
                  cases hin
                have h2 : ((c.toNat : Int) != 32) = true := by rw [bne, h1]; rfl
                have HF2 : Hid (F = (wst s (k + 1)).1) := Lib.hid (by rw [HN.out]; exact HF.out)
                have HI2 : Hid (StrIs w (wst s (k + 1)).2 n u4 wr) := Lib.hid (by rw [HN.out]; exact HI.out)
                clear hc hin HN HF HI
                go_wp2_with fail
                go_roundw
                case rel => exact ⟨k + 1, n, F, by omega, by go_num, by go_num, ⟨by omega, by omega⟩, HF2, HI2⟩
                case measure => simp [intOf]; omega
              | false =>
                have hcs : k = s.size ∨ (k < s.size ∧ s.data.toList[k]? = some 32) := by
                  rcases Nat.lt_or_ge k s.size with h | h
                  · obtain ⟨c, hc⟩ := string_at h
                    refine .inr ⟨h, ?_⟩
                    unfold inWord at hin
                    rw [hc] at hin
                    simp only [bne_eq_false_iff_eq] at hin
                    rw [hc, hin]
                  · exact .inl (by omega)
                have HIN := Lib.hid hin
                clear hin
                rcases Nat.lt_or_ge F k with hFk | hFk
                · have HN := Lib.hid (wst_word HIN.out (by rw [← HF.out]; exact hFk))
                  have HF2 : Hid (k + 1 = (wst s (k + 1)).1) := Lib.hid (by rw [HN.out])
                  have hFk1 : (F : Int) < (k : Int) := by omega
                  have hF0 : (0 : Int) ≤ (F : Int) := by omega
                  have HNL : Hid ((wst s (k + 1)).2 = (wst s k).2 ++ [s.extract F k]) := Lib.hid (by rw [HN.out, HF.out])
                  have hwr := HI.out.2.2.size
                  have HO := Lib.hid (one_str (s.extract F k))
                  clear HN HF
                  rcases hcs with hks | ⟨hks, hc⟩
                  · have hk2 : ¬ (k : Int) < (s.size : Int) := by omega
                    clear hks
                    go_wp2_with (at_builtin; refine Words.wpList_append_any _ rfl (.tmp 61) (.tmp 66) _ rfl w.heap.size 9 i0 _ 1 16 Tryd.underlying48 hi0 hz0 hz1 hz2 rfl (by omega) u4 n _ rfl (HI.out.2.1.alloc _) (wr.heap.size + 1) (some ⟨wr.heap.size, 0, none⟩) 1 1 (sC (s.extract F k)) rfl (reads_str _ _ rfl (s.extract F k) _) HO.out (by simp only [maxLen]; omega) (by omega) (by simp; omega) ?_; intro v' w2 ho hg hat; have HI2 := Lib.hid (HI.out.app ho hg HNL.out); clear ho hg hat HI)
                    go_roundw
                    case rel => exact ⟨k + 1, n + 1, k + 1, by omega, by go_num, by go_num, ⟨by omega, by omega⟩, HF2, HI2⟩
                    case measure => simp [intOf]; omega
                  · have hk2 : (k : Int) < (s.size : Int) := by omega
                    have hix := fun w => index_at (P := Tryd.prog) (t := 9) (by go_side) hc w
                    rw [show ((32 : UInt8).toNat : Int) = 32 from rfl] at hix
                    clear hks hc
                    go_wp2_with (at_builtin; refine Words.wpList_append_any _ rfl (.tmp 61) (.tmp 66) _ rfl w.heap.size 9 i0 _ 1 16 Tryd.underlying48 hi0 hz0 hz1 hz2 rfl (by omega) u4 n _ rfl (HI.out.2.1.alloc _) (wr.heap.size + 1) (some ⟨wr.heap.size, 0, none⟩) 1 1 (sC (s.extract F k)) rfl (reads_str _ _ rfl (s.extract F k) _) HO.out (by simp only [maxLen]; omega) (by omega) (by simp; omega) ?_; intro v' w2 ho hg hat; have HI2 := Lib.hid (HI.out.app ho hg HNL.out); clear ho hg hat HI)
                    go_roundw
                    case rel => exact ⟨k + 1, n + 1, k + 1, by omega, by go_num, by go_num, ⟨by omega, by omega⟩, HF2, HI2⟩
                    case measure => simp [intOf]; omega
                · have HN := Lib.hid (wst_gap HIN.out (by rw [← HF.out]; omega))
                  have HF2 : Hid (k + 1 = (wst s (k + 1)).1) := Lib.hid (by rw [HN.out])
                  have hFk1 : ¬ (F : Int) < (k : Int) := by omega
                  have HI2 : Hid (StrIs w (wst s (k + 1)).2 n u4 wr) := Lib.hid (by rw [HN.out]; exact HI.out)
                  clear HN HF HI
                  rcases hcs with hks | ⟨hks, hc⟩
                  · have hk2 : ¬ (k : Int) < (s.size : Int) := by omega
                    clear hks
                    go_wp2_with fail
                    go_roundw
                    case rel => exact ⟨k + 1, n, k + 1, by omega, by go_num, by go_num, ⟨by omega, by omega⟩, HF2, HI2⟩
                    case measure => simp [intOf]; omega
                  · have hk2 : (k : Int) < (s.size : Int) := by omega
                    have hix := fun w => index_at (P := Tryd.prog) (t := 9) (by go_side) hc w
                    rw [show ((32 : UInt8).toNat : Int) = 32 from rfl] at hix
                    clear hks hc
                    go_wp2_with fail
                    go_roundw
                    case rel => exact ⟨k + 1, n, k + 1, by omega, by go_num, by go_num, ⟨by omega, by omega⟩, HF2, HI2⟩
                    case measure => simp [intOf]; omega
            · have hks : k = s.size + 1 := by omega
              have HFI : Hid (StrIs w (wordsF s) n u4 wr) := Lib.hid (by have h := HI.out; rw [hks] at h; exact h)
              have hn14 : n ≤ 14 := by have h1 := HS.out.few; have h2 := HFI.out.1; omega
              have hk2 : ¬ (k : Int) ≤ (s.size : Int) := by omega
              obtain rfl := HFI.out.1
              obtain ⟨A, c, e⟩ := own_form HFI.out.2.1
              subst e
              clear hks HI HF
              go_wp2_with fail
              go_ret2
              exact ⟨_, rfl, HFI.out.2.1, HFI.out.2.2⟩
    · obtain ⟨j, rfl⟩ : ∃ j, k = j + 1 := ⟨k - 1, by omega⟩
      have hj : ((j + 1 : Nat) : Int) - 1 = (j : Int) := by omega
      rw [hj]
      obtain ⟨c, hc⟩ := string_at (s := s) (k := j) (by omega)
      have hix := fun w => index_at (P := Tryd.prog) (t := 9) (by go_side) hc w
      have hk1 : (j : Int) < (s.size : Int) := by omega
      have hk0 : (0 : Int) ≤ (j : Int) := by omega
      have h1 : ((c.toNat : Int) == 35) = false := by
        rw [beq_eq_false_iff_ne]
        intro e
        exact (HS.out.chars c (List.mem_of_getElem? hc)).1 (UInt8.toNat_inj.1 (by have h9 : (35 : UInt8).toNat = 35 := rfl; omega))
      clear hc hj
      go_wp2_with fail
      go_roundw
      case rel => exact ⟨j, by omega, rfl, rfl, HW⟩
      case measure => simp [intOf]
end Go.Proofs.YtckbdnkonccmiaaDoor
namespace Go.Proofs.YtckbdnkonccmiaaDoor
open Go.RowKit
def isEnd (s : ByteArray) (i : Nat) : Bool := match s.data.toList[i]? with | some c => c == 10 | none => true
/-- where the line at hand begins, its number, and the lines ahead of it -/
def lst (s : ByteArray) : Nat → Nat × Nat × List (Int × List ByteArray)
  | 0 => (0, 1, [])
  | i + 1 => if isEnd s i then (i + 1, (lst s i).2.1 + 1, if wordsF (s.extract (lst s i).1 i) = [] then (lst s i).2.2 else (lst s i).2.2 ++ [(((lst s i).2.1 : Int), wordsF (s.extract (lst s i).1 i))]) else lst s i
def linesF (s : ByteArray) : List (Int × List ByteArray) := (lst s (s.size + 1)).2.2
theorem lst_no {s : ByteArray} {i : Nat} (h : isEnd s i = false) : lst s (i + 1) = lst s i := by
  conv => lhs; unfold lst
  rw [h]; rfl
theorem lst_yes {s : ByteArray} {i : Nat} (h : isEnd s i = true) : lst s (i + 1) = (i + 1, (lst s i).2.1 + 1, if wordsF (s.extract (lst s i).1 i) = [] then (lst s i).2.2 else (lst s i).2.2 ++ [(((lst s i).2.1 : Int), wordsF (s.extract (lst s i).1 i))]) := by
  conv => lhs; unfold lst
  rw [if_pos h]
theorem lst_le (s : ByteArray) : ∀ i, (lst s i).1 ≤ i ∧ (lst s i).2.1 ≤ i + 1 ∧ (lst s i).2.2.length ≤ i
  | 0 => ⟨Nat.le_refl _, Nat.le_refl _, Nat.le_refl _⟩
  | i + 1 => by
    have := lst_le s i
    cases h : isEnd s i with
    | false => rw [lst_no h]; omega
    | true =>
      rw [lst_yes h]
      refine ⟨Nat.le_refl _, by show (lst s i).2.1 + 1 ≤ _; omega, ?_⟩
      show (if _ then _ else _ : List _).length ≤ _
      split
      · omega
      · simp; omega
structure TextP (s : ByteArray) : Prop where
  small : s.size ≤ 4096
  lines : ∀ i, i < s.size + 1 → isEnd s i = true → LineP (s.extract (lst s i).1 i)
/-- the lines that are gathered lie at vo, and their words beside them -/
def LnsIs (W0 : World) (l : List (Int × List ByteArray)) (n : Nat) (vo : Value) (wr : World) : Prop :=
  ∃ xs : List Ln, n = xs.length ∧ xs.map Ln.told = l ∧ wr.ownsRow W0.heap.size 50 2 vo n (xs.flatMap Ln.cells) ∧ (∀ x ∈ xs, ∃ B, wr.ownsRow B 9 1 x.v x.ws.length (x.ws.flatMap sC)) ∧ Below W0.heap.size W0 wr
theorem LnsIs.below {W0 wr w2 : World} {n : Nat} {l : List (Int × List ByteArray)} {vo : Value} (h : LnsIs W0 l n vo wr) (hb : Below wr.heap.size wr w2) : LnsIs W0 l n vo w2 := by
  obtain ⟨xs, h1, h2, h3, h4, h5⟩ := h
  refine ⟨xs, h1, h2, own_below h3 hb, fun x hx => ?_, h5.trans (hb.mono h5.size)⟩
  obtain ⟨B, hB⟩ := h4 x hx
  exact ⟨B, own_below hB hb⟩
theorem LnsIs.own {W0 wr : World} {n : Nat} {l : List (Int × List ByteArray)} {vo : Value} (h : LnsIs W0 l n vo wr) : ∃ xs : List Ln, n = xs.length ∧ wr.ownsRow W0.heap.size 50 2 vo n (xs.flatMap Ln.cells) ∧
    ∀ (w2 : World) (ob : Obj) (v' : Value) (no : Int) (v : Value) (ws : List ByteArray) (B : Nat), wr.ownsRow B 9 1 v ws.length (ws.flatMap sC) →
      w2.ownsRow W0.heap.size 50 2 v' (n + 1) (xs.flatMap Ln.cells ++ [.int .i64 no, v]) → (wr.alloc ob).grownBy w2 vo.ownBlock → LnsIs W0 (l ++ [(no, ws)]) (n + 1) v' w2 := by
  obtain ⟨xs, h1, h2, h3, h4, h5⟩ := h
  refine ⟨xs, h1, h3, fun w2 ob v' no v ws B hv ho hg => ?_⟩
  refine ⟨xs ++ [⟨no, v, ws⟩], by simp [h1], by simp [h2, Ln.told], by simpa [Ln.cells] using ho, fun x hx => ?_, (h5.alloc h5.size ob).grown hg (by have := h5.size; simp; omega) (fun k hk => (h3.lt k hk).1)⟩
  rcases List.mem_append.1 hx with hx | hx
  · obtain ⟨B', hB'⟩ := h4 x hx
    exact ⟨B', (hB'.alloc ob).kept hg (own_ne hB' h3 (by decide))⟩
  · obtain rfl := List.mem_singleton.1 hx
    exact ⟨B, (hv.alloc ob).kept hg (own_ne hv h3 (by decide))⟩
def RLinesIs (l : List (Int × List ByteArray)) (w : World) (e : Ending) (w' : World) : Prop := ∃ v n, e = .returned (.tuple #[v, .int .i64 0, .int .i64 0]) ∧ LnsIs w l n v w'
theorem reads_line (w : World) (g : Nat) (hg : w.heap.size = g) (no : Int) (v : Value) (t : TypeId) : Words.Reads (w.alloc (.cells #[.int .i64 no, v] t)) (g + 1) 2 (some ⟨g, 0, none⟩) 1 [.int .i64 no, v] := by
  subst hg
  exact LawFrame.reads_block (xs := [.int .i64 no, v]) (t := t) (heap_alloc_new w _) (by omega) rfl
set_option maxHeartbeats 4000000 in
set_option maxRecDepth 100000 in
theorem rlines_any (w : World) (s : ByteArray) (hs : TextP s) :
    Calls Tryd.prog 14 #[.string s] w (RLinesIs (linesF s) w) := by
  obtain ⟨i0, hi0, hz0, hz1, hz2⟩ := line_parts
  have HS := Lib.hid hs
  have hsz := hs.small
  clear hs
  have HI0 : Hid (LnsIs w (lst s 0).2.2 0 (.slice none 0 0) w) := Lib.hid ⟨[], rfl, rfl, World.ownsRow_nil _ _ _ _, fun x hx => (by cases hx), Below.refl _ _⟩
  go_enter Tryd.func14, Tryd.ntmps14
  go_wp2_with fail
  go_loopw [5, 6, 7, 8] (fun o no f i wr => ∃ (k n N F : Nat), k ≤ s.size + 1 ∧ i = .int .i64 (k : Int) ∧ f = .int .i64 (F : Int) ∧ no = .int .i64 (N : Int) ∧ (F ≤ k ∧ n ≤ k ∧ N ≤ k + 1) ∧ Hid (F = (lst s k).1 ∧ N = (lst s k).2.1) ∧ Hid (LnsIs w (lst s k).2.2 n o wr)) (fun _ _ _ i _ => s.size + 1 - (intOf i).toNat)
  case atStart => exact ⟨0, 0, 1, 0, Nat.zero_le _, rfl, rfl, rfl, ⟨Nat.le_refl _, Nat.le_refl _, Nat.le_refl _⟩, Lib.hid ⟨rfl, rfl⟩, HI0⟩
  case round =>
    clear HI0
    obtain ⟨k, n, N, F, hk, rfl, rfl, rfl, hF, HF, HI⟩ := hrel
    by_cases hlt : k < s.size + 1
    · have hk1 : (k : Int) ≤ (s.size : Int) := by omega
      cases hend : isEnd s k with
      | false =>
        have HN : Hid (lst s (k + 1) = lst s k) := Lib.hid (lst_no hend)
        have hks : k < s.size := by
          rcases Nat.lt_or_ge k s.size with h | h
          · exact h
          · unfold isEnd at hend
            rw [List.getElem?_eq_none (by simpa using h)] at hend
            cases hend
        obtain ⟨c, hc⟩ := string_at hks
        have hix := fun w => index_at (P := Tryd.prog) (t := 9) (by go_side) hc w
        have hk2 : (k : Int) < (s.size : Int) := by omega
        have h1 : ((c.toNat : Int) == 10) = false := by
          unfold isEnd at hend
          rw [hc] at hend
          rw [beq_eq_false_iff_ne]
          intro e
          have : c = 10 := UInt8.toNat_inj.1 (by have h9 : (10 : UInt8).toNat = 10 := rfl; omega)
          rw [this] at hend
          cases hend
        have h2 : ((c.toNat : Int) != 10) = true := by rw [bne, h1]; rfl
        have HF2 : Hid (F = (lst s (k + 1)).1 ∧ N = (lst s (k + 1)).2.1) := Lib.hid (by rw [HN.out]; exact HF.out)
        have HI2 : Hid (LnsIs w (lst s (k + 1)).2.2 n u5 wr) := Lib.hid (by rw [HN.out]; exact HI.out)
        clear hc hend HN HF HI
        go_wp2_with fail
        go_roundw
        case rel => exact ⟨k + 1, n, N, F, by omega, by go_num, by go_num, by go_num, ⟨by omega, by omega, by omega⟩, HF2, HI2⟩
        case measure => simp [intOf]; omega
      | true =>
        have hcs : k = s.size ∨ (k < s.size ∧ s.data.toList[k]? = some 10) := by
          rcases Nat.lt_or_ge k s.size with h | h
          · obtain ⟨c, hc⟩ := string_at h
            refine .inr ⟨h, ?_⟩
            unfold isEnd at hend
            rw [hc] at hend
            rw [hc, show c = 10 by simpa using hend]
          · exact .inl (by omega)
        have HY := Lib.hid (lst_yes hend)
        have HLP : Hid (LineP (s.extract F k)) := Lib.hid (by rw [HF.out.1]; exact HS.out.lines k hlt hend)
        have hF0 : (0 : Int) ≤ (F : Int) := by omega
        have hFk : (F : Int) ≤ (k : Int) := by omega
        obtain ⟨L, hL⟩ : ∃ L, L = wordsF (s.extract F k) := ⟨_, rfl⟩
        have HYF : Hid (k + 1 = (lst s (k + 1)).1 ∧ N + 1 = (lst s (k + 1)).2.1) := Lib.hid (by rw [HY.out]; exact ⟨rfl, by rw [HF.out.2]⟩)
        have HYL : Hid ((lst s (k + 1)).2.2 = if L = [] then (lst s k).2.2 else (lst s k).2.2 ++ [((N : Int), L)]) := Lib.hid (by rw [HY.out, hL, HF.out.1, HF.out.2])
        have HLL := Lib.hid hL
        have hLl : L.length ≤ 14 := by rw [hL]; exact HLP.out.few
        clear hend HY hL
        rcases hcs with hks | ⟨hks, hc⟩
        · have hk2 : ¬ (k : Int) < (s.size : Int) := by omega
          clear hks
          go_wp2_with fail
          refine (rwords_any _ _ HLP.out).mono ?_
          rintro e w1 ⟨v, rfl, hv, hb⟩
          have HI1 := Lib.hid (HI.out.below hb)
          have HV : Hid (w1.ownsRow wr.heap.size 9 1 v L.length (L.flatMap sC)) := Lib.hid (by rw [HLL.out]; exact hv)
          clear hv hb HI HLP
          obtain ⟨A, c, e⟩ := own_form HV.out
          subst e
          by_cases hL0 : L = []
          · have hl0 : ¬ (0 : Int) < (L.length : Int) := by rw [hL0]; simp
            have HI2 : Hid (LnsIs w (lst s (k + 1)).2.2 n u5 w1) := Lib.hid (by rw [HYL.out, if_pos hL0]; exact HI1.out)
            clear hL0 HI1 HV HYL
            go_wp2_with fail
            go_roundw
            case rel => exact ⟨k + 1, n, N + 1, k + 1, by omega, by go_num, by go_num, by go_num, ⟨by omega, by omega, by omega⟩, HYF, HI2⟩
            case measure => simp [intOf]; omega
          · have hl0 : (0 : Int) < (L.length : Int) := by
              have := List.length_pos_iff.2 hL0
              omega
            obtain ⟨xs, hx1, hx2, hx3⟩ := HI1.out.own
            have HX2 := Lib.hid hx2
            have HX3 := Lib.hid hx3
            have hwr : w.heap.size ≤ w1.heap.size := by obtain ⟨xs, -, -, -, -, hb⟩ := HI1.out; exact hb.size
            have HO := Lib.hid (one_line (N : Int) A L.length c)
            have HLN : Hid ((lst s k).2.2 ++ [((N : Int), L)] = (lst s (k + 1)).2.2) := Lib.hid (by rw [HYL.out, if_neg hL0])
            clear hL0 HYL hx1 hx2 hx3
            go_wp2_with (at_builtin; refine Words.wpList_append_any _ rfl (.tmp 45) (.tmp 49) _ rfl w.heap.size 50 i0 _ 2 32 Tryd.underlying36 hi0 hz0 hz1 hz2 rfl (by omega) u5 n _ rfl (HX2.out.alloc _) (w1.heap.size + 1) (some ⟨w1.heap.size, 0, none⟩) 1 1 [.int .i64 (N : Int), .slice A L.length c] rfl (reads_line _ _ rfl (N : Int) _ _) HO.out (by simp only [maxLen]; omega) (by omega) (by simp; omega) ?_; intro v' w2 ho hg hat; have HI2 : Hid (LnsIs w (lst s (k + 1)).2.2 (n + 1) v' w2) := Lib.hid (by rw [← HLN.out]; exact HX3.out w2 _ v' (N : Int) _ L _ HV.out ho hg); clear ho hg hat HI1 HX2 HX3 HV)
            go_roundw
            case rel => exact ⟨k + 1, n + 1, N + 1, k + 1, by omega, by go_num, by go_num, by go_num, ⟨by omega, by omega, by omega⟩, HYF, HI2⟩
            case measure => simp [intOf]; omega
        · have hk2 : (k : Int) < (s.size : Int) := by omega
          have hix := fun w => index_at (P := Tryd.prog) (t := 9) (by go_side) hc w
          rw [show ((10 : UInt8).toNat : Int) = 10 from rfl] at hix
          clear hks hc
          go_wp2_with fail
          refine (rwords_any _ _ HLP.out).mono ?_
          rintro e w1 ⟨v, rfl, hv, hb⟩
          have HI1 := Lib.hid (HI.out.below hb)
          have HV : Hid (w1.ownsRow wr.heap.size 9 1 v L.length (L.flatMap sC)) := Lib.hid (by rw [HLL.out]; exact hv)
          clear hv hb HI HLP
          obtain ⟨A, c, e⟩ := own_form HV.out
          subst e
          by_cases hL0 : L = []
          · have hl0 : ¬ (0 : Int) < (L.length : Int) := by rw [hL0]; simp
            have HI2 : Hid (LnsIs w (lst s (k + 1)).2.2 n u5 w1) := Lib.hid (by rw [HYL.out, if_pos hL0]; exact HI1.out)
            clear hL0 HI1 HV HYL
            go_wp2_with fail
            go_roundw
            case rel => exact ⟨k + 1, n, N + 1, k + 1, by omega, by go_num, by go_num, by go_num, ⟨by omega, by omega, by omega⟩, HYF, HI2⟩
            case measure => simp [intOf]; omega
          · have hl0 : (0 : Int) < (L.length : Int) := by
              have := List.length_pos_iff.2 hL0
              omega
            obtain ⟨xs, hx1, hx2, hx3⟩ := HI1.out.own
            have HX2 := Lib.hid hx2
            have HX3 := Lib.hid hx3
            have hwr : w.heap.size ≤ w1.heap.size := by obtain ⟨xs, -, -, -, -, hb⟩ := HI1.out; exact hb.size
            have HO := Lib.hid (one_line (N : Int) A L.length c)
            have HLN : Hid ((lst s k).2.2 ++ [((N : Int), L)] = (lst s (k + 1)).2.2) := Lib.hid (by rw [HYL.out, if_neg hL0])
            clear hL0 HYL hx1 hx2 hx3
            go_wp2_with (at_builtin; refine Words.wpList_append_any _ rfl (.tmp 45) (.tmp 49) _ rfl w.heap.size 50 i0 _ 2 32 Tryd.underlying36 hi0 hz0 hz1 hz2 rfl (by omega) u5 n _ rfl (HX2.out.alloc _) (w1.heap.size + 1) (some ⟨w1.heap.size, 0, none⟩) 1 1 [.int .i64 (N : Int), .slice A L.length c] rfl (reads_line _ _ rfl (N : Int) _ _) HO.out (by simp only [maxLen]; omega) (by omega) (by simp; omega) ?_; intro v' w2 ho hg hat; have HI2 : Hid (LnsIs w (lst s (k + 1)).2.2 (n + 1) v' w2) := Lib.hid (by rw [← HLN.out]; exact HX3.out w2 _ v' (N : Int) _ L _ HV.out ho hg); clear ho hg hat HI1 HX2 HX3 HV)
            go_roundw
            case rel => exact ⟨k + 1, n + 1, N + 1, k + 1, by omega, by go_num, by go_num, by go_num, ⟨by omega, by omega, by omega⟩, HYF, HI2⟩
            case measure => simp [intOf]; omega
    · have hks : k = s.size + 1 := by omega
      have HFI : Hid (LnsIs w (linesF s) n u5 wr) := Lib.hid (by have h := HI.out; rw [hks] at h; exact h)
      have hk2 : ¬ (k : Int) ≤ (s.size : Int) := by omega
      clear hks HI HF
      go_wp2_with fail
      go_ret3
      exact ⟨_, _, rfl, HFI.out⟩
end Go.Proofs.YtckbdnkonccmiaaDoor
namespace Go.Proofs.YtckbdnkonccmiaaDoor
open Go.RowKit
theorem extract_list (s : ByteArray) (a b : Nat) : (s.extract a b).data.toList = (s.data.toList.take b).drop a := by
  rw [ByteArray.data_extract, Array.toList_extract]
  simp [List.take_drop]
  by_cases h : a ≤ b
  · rw [show a + (b - a) = b by omega]
  · rw [List.drop_eq_nil_of_le (by simp; omega), List.drop_eq_nil_of_le (by simp; omega)]
theorem extract_eq {s : ByteArray} {a : Nat} {w r : List UInt8} (h : s.data.toList.drop a = w ++ r) (_hw : w ≠ []) : s.extract a (a + w.length) = toB w := by
  rw [← toB_of (s.extract a (a + w.length)), extract_list]
  rw [List.drop_take, h, Nat.add_sub_cancel_left, List.take_left]
theorem at_drop {l : List UInt8} {a i : Nat} {w r : List UInt8} (h : l.drop a = w ++ r) (hi : i < w.length) : l[a + i]? = w[i]? := by
  have : (l.drop a)[i]? = (w ++ r)[i]? := by rw [h]
  rw [List.getElem?_drop, List.getElem?_append_left hi] at this
  exact this
theorem at_behind {l : List UInt8} {a : Nat} {w r : List UInt8} (h : l.drop a = w ++ r) : l[a + w.length]? = r[0]? ∧ l.drop (a + w.length) = r := by
  constructor
  · have : (l.drop a)[w.length]? = (w ++ r)[w.length]? := by rw [h]
    rw [List.getElem?_drop, List.getElem?_append_right (Nat.le_refl _), Nat.sub_self] at this
    exact this
  · rw [← List.drop_drop, h, List.drop_left]
theorem drop_len {l : List UInt8} {a : Nat} {w : List UInt8} (h : l.drop a = w) (ha : a ≤ l.length) : l.length = a + w.length := by
  have := congrArg List.length h
  rw [List.length_drop] at this
  omega
/-! ### words -/
theorem wst_along {s : ByteArray} {a : Nat} {w r : List UInt8} {acc : List ByteArray} (h : s.data.toList.drop a = w ++ r) (hw : w.all letterB = true) (h0 : wst s a = (a, acc)) : ∀ i, i ≤ w.length → wst s (a + i) = (a, acc)
  | 0, _ => h0
  | i + 1, hi => by
    rw [← Nat.add_assoc, wst_in, wst_along h hw h0 i (by omega)]
    unfold inWord
    rw [at_drop h (by omega), List.getElem?_eq_getElem (by omega)]
    have h1 : letterB w[i] = true := List.all_eq_true.1 hw _ (List.getElem_mem _)
    have h2 : w[i] ≠ 32 := by
      intro e
      rw [e] at h1
      exact absurd h1 (by decide)
    simpa using h2
theorem wst_words {s : ByteArray} : ∀ (ws : List (List UInt8)) (w : List UInt8) (a : Nat) (acc : List ByteArray), fineW w → (∀ v ∈ ws, fineW v) → a ≤ s.data.toList.length → s.data.toList.drop a = w ++ ws.flatMap (fun v => 32 :: v) → wst s a = (a, acc) →
    (wst s (s.size + 1)).2 = acc ++ (w :: ws).map toB ∧ ∀ i, a ≤ i → i < s.size + 1 → i - (wst s i).1 ≤ 16
  | [], w, a, acc, hw, _, ha, hl, h0 => by
    have hz : s.data.toList.length = s.size := by simp
    have hlen := drop_len hl ha
    simp only [List.flatMap_nil, List.append_nil] at hlen
    have hpos := List.length_pos_iff.2 hw.1
    have hal := wst_along hl hw.2.2 h0
    have hend : wst s s.size = (a, acc) := by
      have := hal w.length (Nat.le_refl _)
      rw [show a + w.length = s.size by omega] at this
      exact this
    have hin : inWord s s.size = false := by
      unfold inWord
      rw [List.getElem?_eq_none (by omega)]
    constructor
    · rw [wst_word hin (by rw [hend]; show a < s.size; omega), hend]
      show acc ++ [s.extract a s.size] = _
      rw [show s.size = a + w.length by omega, extract_eq hl hw.1]
      rfl
    · intro i h1 h2
      have := hal (i - a) (by omega)
      rw [show a + (i - a) = i by omega] at this
      rw [this]
      have := hw.2.1
      show i - a ≤ 16
      omega
  | v :: ws, w, a, acc, hw, hv, ha, hl, h0 => by
    have hz : s.data.toList.length = s.size := by simp
    have hlen := drop_len hl ha
    rw [List.flatMap_cons, List.length_append] at hlen
    simp only [List.length_append, List.length_cons] at hlen
    have hpos := List.length_pos_iff.2 hw.1
    have hal := wst_along hl hw.2.2 h0
    obtain ⟨h1, h2⟩ := at_behind hl
    rw [List.flatMap_cons] at h1 h2
    have hend := hal w.length (Nat.le_refl _)
    have hin : inWord s (a + w.length) = false := by
      unfold inWord
      rw [h1]
      simp
    have hnext := wst_word hin (by rw [hend]; show a < a + w.length; omega)
    rw [hend] at hnext
    simp only at hnext
    rw [extract_eq hl hw.1] at hnext
    obtain ⟨r1, r2⟩ := wst_words ws v (a + w.length + 1) (acc ++ [toB w]) (hv v (by simp)) (fun u hu => hv u (by simp [hu])) (by omega) (by rw [← List.drop_drop, h2]; rfl) hnext
    constructor
    · rw [r1]; simp
    · intro i h3 h4
      rcases Nat.lt_or_ge i (a + w.length + 1) with h5 | h5
      · have := hal (i - a) (by omega)
        rw [show a + (i - a) = i by omega] at this
        rw [this]
        have := hw.2.1
        show i - a ≤ 16
        omega
      · exact r2 i h5 h4
theorem words_join {ws : List (List UInt8)} (h : fineL ws) (hl : (joinW ws).length ≤ 4096) : LineP (toB (joinW ws)) ∧ wordsF (toB (joinW ws)) = ws.map toB := by
  obtain ⟨h1, h2, h3⟩ := h
  have hz := toB_size (joinW ws)
  cases ws with
  | nil => exact absurd rfl h1
  | cons w ws =>
    obtain ⟨r1, r2⟩ := wst_words (s := toB (joinW (w :: ws))) ws w 0 [] (h3 w (by simp)) (fun v hv => h3 v (by simp [hv])) (Nat.zero_le _) (by rw [toB_list]; rfl) rfl
    rw [List.nil_append] at r1
    refine ⟨⟨fun c hc => ?_, by omega, fun i hi => r2 i (Nat.zero_le _) hi, ?_⟩, r1⟩
    · rw [toB_list] at hc
      have hok := List.all_eq_true.1 (join_ok h3) c hc
      refine ⟨(ok_ne hok).2, ?_⟩
      unfold okB at hok
      rw [Bool.or_eq_true, beq_iff_eq] at hok
      exact hok
    · show (wst _ (_ + 1)).2.length ≤ 14
      rw [r1, List.length_map]
      exact h2
theorem words_empty : LineP (toB []) ∧ wordsF (toB []) = [] := by
  have e : wst (toB []) 1 = (1, []) := wst_gap (s := toB []) (i := 0) (by decide) (by decide)
  refine ⟨⟨fun c hc => by simp [toB] at hc, by decide, fun i hi => ?_, ?_⟩, ?_⟩
  · have hi0 : i = 0 := by
      have : (toB []).size = 0 := rfl
      omega
    subst hi0
    exact Nat.zero_le _
  · show (wst (toB []) 1).2.length ≤ 14
    rw [e]; exact Nat.zero_le _
  · show (wst (toB []) 1).2 = []
    rw [e]
/-! ### lines -/
theorem lst_along {s : ByteArray} {b : Nat} {w r : List UInt8} {x : Nat × List (Int × List ByteArray)} (h : s.data.toList.drop b = w ++ r) (hw : (10 : UInt8) ∉ w) (h0 : lst s b = (b, x)) : ∀ i, i ≤ w.length → lst s (b + i) = (b, x) ∧ (i < w.length → isEnd s (b + i) = false)
  | 0, _ => ⟨h0, fun hi => by
    unfold isEnd
    rw [at_drop h hi, List.getElem?_eq_getElem hi]
    have : w[0] ≠ 10 := fun e => hw (by rw [← e]; exact List.getElem_mem _)
    simpa using this⟩
  | i + 1, hi => by
    obtain ⟨h1, h2⟩ := lst_along h hw h0 i (by omega)
    refine ⟨by rw [← Nat.add_assoc, lst_no (h2 (by omega)), h1], fun hi => ?_⟩
    unfold isEnd
    rw [at_drop h hi, List.getElem?_eq_getElem hi]
    have : w[i + 1] ≠ 10 := fun e => hw (by rw [← e]; exact List.getElem_mem _)
    simpa using this
theorem lst_lines {s : ByteArray} (hs : s.size ≤ 4096) : ∀ (ls : List (List (List UInt8))) (b no : Nat) (acc : List (Int × List ByteArray)), (∀ ws ∈ ls, fineL ws) → b ≤ s.data.toList.length → s.data.toList.drop b = printL ls → lst s b = (b, no, acc) →
    (lst s (s.size + 1)).2.2 = acc ++ toldL (number no ls) ∧ ∀ i, b ≤ i → i < s.size + 1 → isEnd s i = true → LineP (s.extract (lst s i).1 i)
  | [], b, no, acc, _, hb, hl, h0 => by
    have hz : s.data.toList.length = s.size := by simp
    have hlen := drop_len hl hb
    simp only [printL, List.flatMap_nil, List.length_nil] at hlen
    obtain rfl : b = s.size := by omega
    have hend : isEnd s s.size = true := by
      unfold isEnd
      rw [List.getElem?_eq_none (by omega)]
    have hex : s.extract s.size s.size = toB [] := by
      rw [← toB_of (s.extract s.size s.size), extract_list, List.drop_eq_nil_of_le (by simp)]
    constructor
    · rw [lst_yes hend, h0]
      simp only
      rw [hex, if_pos words_empty.2]
      simp [number, toldL]
    · intro i h1 h2 _
      obtain rfl : i = s.size := by omega
      rw [h0]
      simp only
      rw [hex]
      exact words_empty.1
  | ws :: ls, b, no, acc, hf, hb, hl, h0 => by
    have hz : s.data.toList.length = s.size := by simp
    have hfw := hf ws (by simp)
    have hl' : s.data.toList.drop b = joinW ws ++ (10 :: printL ls) := by
      rw [hl]
      unfold printL
      rw [List.flatMap_cons, List.append_assoc]; rfl
    have hlen := drop_len hl' hb
    simp only [List.length_append, List.length_cons] at hlen
    have hal := lst_along hl' (join_ten hfw.2.2) h0
    obtain ⟨h1, h2⟩ := at_behind hl'
    have hend : isEnd s (b + (joinW ws).length) = true := by
      unfold isEnd
      rw [h1]
      simp
    have hj : joinW ws ≠ [] := by
      intro e
      have := hfw.1
      cases ws with
      | nil => exact this rfl
      | cons w t =>
        have hw := (hfw.2.2 w (by simp)).1
        unfold joinW at e
        exact hw (List.append_eq_nil_iff.1 e).1
    obtain ⟨w1, w2⟩ := words_join hfw (by omega)
    have hnext := lst_yes hend
    rw [(hal _ (Nat.le_refl _)).1] at hnext
    simp only at hnext
    rw [extract_eq hl' hj, w2, if_neg (by simpa using hfw.1)] at hnext
    obtain ⟨r1, r2⟩ := lst_lines hs ls (b + (joinW ws).length + 1) (no + 1) _ (fun v hv => hf v (by simp [hv])) (by omega) (by rw [← List.drop_drop, h2]; rfl) hnext
    constructor
    · rw [r1, number]
      unfold toldL toldOf
      simp
    · intro i h3 h4 h5
      rcases Nat.lt_trichotomy i (b + (joinW ws).length) with h6 | h6 | h6
      · have := (hal (i - b) (by omega)).2 (by omega)
        rw [show b + (i - b) = i by omega, h5] at this
        cases this
      · subst h6
        rw [(hal _ (Nat.le_refl _)).1]
        simp only
        rw [extract_eq hl' hj]
        exact w1
      · exact r2 i (by omega) h4 h5
/-- the document's lines of what is printed -/
theorem rlines_print {ls : List (List (List UInt8))} (hf : ∀ ws ∈ ls, fineL ws) (hl : (printL ls).length ≤ 4096) : TextP (toB (printL ls)) ∧ linesF (toB (printL ls)) = toldL (number 1 ls) := by
  have hz := toB_size (printL ls)
  obtain ⟨r1, r2⟩ := lst_lines (s := toB (printL ls)) (by omega) ls 0 1 [] hf (Nat.zero_le _) (by rw [toB_list]; rfl) rfl
  exact ⟨⟨by omega, fun i hi he => r2 i (Nat.zero_le _) hi he⟩, r1⟩
/-- lines as the document's Lines hands them back -/
theorem rlines_s (w : World) {ls : List (List (List UInt8))} (hf : ∀ ws ∈ ls, fineL ws) (hl : (printL ls).length ≤ 4096) :
    Calls Tryd.prog 14 #[.string (toB (printL ls))] w fun e w' => ∃ (xs : List Ln) (A : Option Addr) (c : Nat), e = .returned (.tuple #[.slice A xs.length c, .int .i64 0, .int .i64 0]) ∧ xs.map Ln.told = toldL (number 1 ls) ∧ LsAt w' xs (.slice A xs.length c) ∧ (∀ x ∈ xs, x.ws.length ≤ 14) ∧ Below w.heap.size w w' := by
  obtain ⟨h1, h2⟩ := rlines_print hf hl
  refine (rlines_any w _ h1).mono ?_
  rintro e w' ⟨v, n, rfl, xs, hn, hx, ho, hr, hb⟩
  obtain ⟨A, c, rfl⟩ := own_form ho
  subst hn
  have hfew : ∀ x ∈ xs, x.ws.length ≤ 14 := by
    intro x hx'
    have hm : x.told ∈ toldL (number 1 ls) := by rw [← h2, ← hx]; exact List.mem_map_of_mem hx'
    unfold toldL at hm
    obtain ⟨y, hy, e⟩ := List.mem_map.1 hm
    have hm2 : y.2 ∈ ls := by rw [← number_snd 1 ls]; exact List.mem_map_of_mem hy
    have := (hf y.2 hm2).2.1
    have e2 : x.ws = y.2.map toB := by
      have := congrArg Prod.snd e
      exact this.symm
    rw [e2, List.length_map]
    exact this
  refine ⟨xs, A, c, rfl, by rw [hx, h2], ⟨LawFrame.RowsAt.of_own Ln.cells_len (by decide) ho, fun x hx' => ?_⟩, hfew, hb⟩
  obtain ⟨B, hB⟩ := hr x hx'
  have := hfew x hx'
  exact ⟨LawFrame.RowsAt.of_own sC_len (by decide) hB, by omega⟩
end Go.Proofs.YtckbdnkonccmiaaDoor
namespace Go.Proofs.YtckbdnkonccmiaaDoor
open Go.RowKit
theorem join_next (ws : List (List UInt8)) (j : Nat) {x : List UInt8} (hx : ws[j]? = some x) : joinW (ws.take (j + 1)) = joinW (ws.take j) ++ (if j = 0 then [] else [32]) ++ x := by
  cases ws with
  | nil => simp at hx
  | cons w ws =>
    cases j with
    | zero => simp at hx; subst hx; simp [joinW]
    | succ j =>
      rw [List.getElem?_cons_succ] at hx
      rw [List.take_succ_cons, List.take_succ_cons, List.take_add_one, hx]
      simp [joinW]
theorem toB_append (a b : List UInt8) : toB a ++ toB b = toB (a ++ b) := by
  rw [← toB_of (toB a ++ toB b), concat_list, toB_list, toB_list]
/-- what is printed so far: the lines ahead, and j words of the line at hand -/
def soB (ls : List (List (List UInt8))) (k : Nat) (ws : List (List UInt8)) (j : Nat) : ByteArray := toB (printL (ls.take k) ++ joinW (ws.take j))
theorem soB_word {ls : List (List (List UInt8))} {k j : Nat} {ws : List (List UInt8)} {x : ByteArray} (hx : ws[j]? = some x.data.toList) : (if j = 0 then soB ls k ws j else soB ls k ws j ++ ⟨#[32]⟩) ++ x = soB ls k ws (j + 1) := by
  have e32 : (⟨#[32]⟩ : ByteArray) = toB [32] := rfl
  have ex : x = toB x.data.toList := (toB_of x).symm
  unfold soB
  rw [join_next ws j hx]
  generalize x.data.toList = l at ex
  subst ex
  split
  · rw [toB_append]; simp
  · rw [e32, toB_append, toB_append]; simp
theorem soB_line {ls : List (List (List UInt8))} {k : Nat} {ws : List (List UInt8)} (hk : ls[k]? = some ws) : soB ls k ws ws.length ++ ⟨#[10]⟩ = soB ls (k + 1) [] 0 := by
  have e10 : (⟨#[10]⟩ : ByteArray) = toB [10] := rfl
  unfold soB
  rw [List.take_length, e10, toB_append, List.take_add_one, hk]
  unfold printL joinW
  simp
theorem flat_take_le {α β : Type} (f : α → List β) (l : List α) (j : Nat) : ((l.take j).flatMap f).length ≤ (l.flatMap f).length := by
  have h := congrArg (fun l => (l.flatMap f).length) (List.take_append_drop j l)
  simp only [List.flatMap_append, List.length_append] at h
  omega
theorem join_take_le : ∀ (ws : List (List UInt8)) (j : Nat), (joinW (ws.take j)).length ≤ (joinW ws).length := by
  intro ws j
  cases ws with
  | nil => simp
  | cons w ws =>
    cases j with
    | zero => simp [joinW]
    | succ j =>
      rw [List.take_succ_cons]
      unfold joinW
      rw [List.length_append, List.length_append]
      have := flat_take_le (fun v : List UInt8 => 32 :: v) ws j
      omega
theorem soB_size {ls : List (List (List UInt8))} {k : Nat} {ws : List (List UInt8)} (hk : ls[k]? = some ws) (j : Nat) : (soB ls k ws j).size + 1 ≤ (printL ls).length := by
  have h1 := join_take_le ws j
  have h2 : (printL ls).length = (printL (ls.take k)).length + (joinW ws).length + 1 + (printL (ls.drop (k + 1))).length := by
    obtain ⟨hk', he⟩ := List.getElem?_eq_some_iff.1 hk
    conv => lhs; rw [← List.take_append_drop k ls, List.drop_eq_getElem_cons hk', he]
    unfold printL
    rw [List.flatMap_append, List.flatMap_cons]
    simp
    omega
  unfold soB
  rw [toB_size, List.length_append]
  omega
theorem soB_le (ls : List (List (List UInt8))) (k : Nat) : (soB ls k [] 0).size ≤ (printL ls).length := by
  unfold soB
  rw [toB_size]
  have := flat_take_le (fun ws : List (List UInt8) => joinW ws ++ [10]) ls k
  unfold printL
  simpa [joinW] using this
set_option maxHeartbeats 2000000 in
set_option maxRecDepth 100000 in
theorem rprint_any (w : World) (xs : List Ln) (v : Value) (h : LsAt w xs v) (hn : xs.length ≤ 1000000) (hws : ∀ x ∈ xs, x.ws.length ≤ 1000000) (hsz : (printL (xs.map Ln.bs)).length ≤ 1000000) :
    Calls Tryd.prog 15 #[v] w fun e w' => e = .returned (.string (toB (printL (xs.map Ln.bs)))) ∧ w = w' := by
  obtain ⟨A, c, e, -, -⟩ := id h.1
  subst e
  have HL := Lib.hid h
  have HWS := Lib.hid hws
  have HSZ := Lib.hid hsz
  clear h hws hsz
  go_enter Tryd.func15, Tryd.ntmps15
  go_wp2_with fail
  go_loopw [3, 4] (fun s i wr => ∃ k : Nat, k ≤ xs.length ∧ i = .int .i64 k ∧ s = .string (soB (xs.map Ln.bs) k [] 0) ∧ Hid (w = wr)) (fun _ i _ => xs.length - (intOf i).toNat)
  case atStart => exact ⟨0, Nat.zero_le _, rfl, rfl, Lib.hid rfl⟩
  case round =>
    obtain ⟨k, hk, rfl, rfl, HW⟩ := hrel
    obtain rfl := HW.out
    by_cases hlt : k < xs.length
    · obtain ⟨x, hx⟩ : ∃ x, xs[k]? = some x := ⟨_, List.getElem?_eq_getElem hlt⟩
      obtain ⟨g, off, hA, hb, hcell⟩ := row_at HL.out.1 hx
      subst hA
      have y1 := hcell 1 _ rfl
      have hbx : (xs.map Ln.bs)[k]? = some x.bs := by rw [List.getElem?_map, hx]; rfl
      have HBX := Lib.hid hbx
      have hsx := (HL.out.2 x (List.mem_of_getElem? hx)).1
      have hwl := HWS.out x (List.mem_of_getElem? hx)
      obtain ⟨wA, wc, ev, -, -⟩ := id hsx
      rw [ev] at y1 hsx
      have HSX := Lib.hid hsx
      obtain ⟨n, hnn⟩ : ∃ n, n = x.ws.length := ⟨_, rfl⟩
      have hbl : x.bs.length = n := by rw [hnn]; unfold Ln.bs; simp
      have HBL := Lib.hid hbl
      have HNN := Lib.hid hnn
      rw [← hnn] at y1 hwl
      have hk1 : (k : Int) < (xs.length : Int) := by omega
      have hk0 : (0 : Int) ≤ (k : Int) := by omega
      have HSTA : Hid (soB (xs.map Ln.bs) k [] 0 = soB (xs.map Ln.bs) k x.bs 0) := Lib.hid rfl
      clear hx hb hcell hbx hsx ev hnn hbl
      go_wp2_with fail
      go_loopw [3, 5] (fun s i wr => ∃ j : Nat, j ≤ n ∧ i = .int .i64 j ∧ s = .string (soB (xs.map Ln.bs) k x.bs j) ∧ Hid (w = wr)) (fun _ i _ => n - (intOf i).toNat)
      case atStart => exact ⟨0, Nat.zero_le _, rfl, by rw [HSTA.out], Lib.hid rfl⟩
      case round =>
        clear HSTA
        obtain ⟨j, hj, rfl, rfl, HW⟩ := hrel
        obtain rfl := HW.out
        by_cases hjl : j < n
        · have hj1 : (j : Int) < (n : Int) := by omega
          have hj0 : (0 : Int) ≤ (j : Int) := by omega
          obtain ⟨y, hy⟩ : ∃ y, x.ws[j]? = some y := ⟨_, List.getElem?_eq_getElem (by have := HNN.out; omega)⟩
          obtain ⟨g2, off2, hA2, hc2⟩ := one_at HSX.out hy
          subst hA2
          have y2 := hc2 _ rfl
          have hby : x.bs[j]? = some y.data.toList := by unfold Ln.bs; rw [List.getElem?_map, hy]; rfl
          have HNX := Lib.hid (soB_word (ls := xs.map Ln.bs) (k := k) hby)
          have hs1 : (soB (xs.map Ln.bs) k x.bs j).size + 1 ≤ 1000000 := Nat.le_trans (soB_size HBX.out j) HSZ.out
          have hs2 : (soB (xs.map Ln.bs) k x.bs (j + 1)).size + 1 ≤ 1000000 := Nat.le_trans (soB_size HBX.out (j + 1)) HSZ.out
          have hys : y.size ≤ 1000000 := by
            rw [← HNX.out] at hs2
            rw [concat_size] at hs2
            omega
          clear hs2 hy hc2 hby
          obtain ⟨S, hS⟩ : ∃ S, S = soB (xs.map Ln.bs) k x.bs j := ⟨_, rfl⟩
          rw [← hS] at HNX hs1 ⊢
          clear hS
          rcases Nat.eq_zero_or_pos j with h0 | h0
          · have HN2 : Hid (S ++ y = soB (xs.map Ln.bs) k x.bs (j + 1)) := Lib.hid (by have := HNX.out; rw [if_pos h0] at this; exact this)
            have hj2 : ¬ (0 : Int) < (j : Int) := by omega
            clear h0 HNX
            go_wp2_with fail
            go_roundw
            case rel => exact ⟨j + 1, by omega, by go_num, by rw [← HN2.out], Lib.hid (by trivial)⟩
            case measure => simp [intOf]; omega
          · have HN2 : Hid ((S ++ ⟨#[32]⟩) ++ y = soB (xs.map Ln.bs) k x.bs (j + 1)) := Lib.hid (by have := HNX.out; rw [if_neg (by omega)] at this; exact this)
            have hs3 : (S ++ ⟨#[32]⟩ : ByteArray).size ≤ 1000000 := by rw [concat_size]; have : (⟨#[32]⟩ : ByteArray).size = 1 := rfl; omega
            have hj2 : (0 : Int) < (j : Int) := by omega
            clear h0 HNX
            go_wp2_with fail
            go_roundw
            case rel => exact ⟨j + 1, by omega, by go_num, by rw [← HN2.out], Lib.hid (by trivial)⟩
            case measure => simp [intOf]; omega
        · have hjn : j = n := by omega
          have HNX : Hid (soB (xs.map Ln.bs) k x.bs j ++ ⟨#[10]⟩ = soB (xs.map Ln.bs) (k + 1) [] 0) := Lib.hid (by rw [hjn, ← HBL.out]; exact soB_line HBX.out)
          have hs1 : (soB (xs.map Ln.bs) k x.bs j).size + 1 ≤ 1000000 := Nat.le_trans (soB_size HBX.out j) HSZ.out
          have hj2 : ¬ (j : Int) < (n : Int) := by omega
          obtain ⟨S, hS⟩ : ∃ S, S = soB (xs.map Ln.bs) k x.bs j := ⟨_, rfl⟩
          rw [← hS] at HNX hs1 ⊢
          clear hS hjn hjl hj
          go_wp2_with fail
          go_roundw
          case rel => exact ⟨k + 1, by omega, by go_num, by rw [← HNX.out], Lib.hid (by trivial)⟩
          case measure => simp [intOf]; omega
    · obtain rfl : k = xs.length := by omega
      have HE : Hid (soB (xs.map Ln.bs) xs.length [] 0 = toB (printL (xs.map Ln.bs))) := Lib.hid (by unfold soB; rw [List.take_of_length_le (by simp)]; simp [joinW])
      have hk2 : ¬ (xs.length : Int) < (xs.length : Int) := by omega
      clear hlt hk
      go_wp2_with fail
      go_ret
      exact ⟨by rw [HE.out]; rfl, rfl⟩
end Go.Proofs.YtckbdnkonccmiaaDoor
