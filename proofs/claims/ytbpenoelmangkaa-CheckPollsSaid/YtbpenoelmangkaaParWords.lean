/-
  The document's words of a line, walked where nothing is wrong.
-/
import Derived.Test.YtbpenoelmangkaaParNames
namespace Go.Proofs.Ytbpenoelmangkaa
open Go.RowKit
def inWord (s : ByteArray) (i : Nat) : Bool := match s.data.toList[i]? with | some c => c != 32 | none => false
/-- where the word at hand begins, and the words ahead of it -/
def wst (s : ByteArray) : Nat → Nat × List ByteArray
  | 0 => (0, [])
  | i + 1 => if inWord s i then wst s i else (i + 1, if (wst s i).1 < i then (wst s i).2 ++ [s.extract (wst s i).1 i] else (wst s i).2)
def wordsF (s : ByteArray) : List ByteArray := (wst s (s.size + 1)).2
theorem wst_le (s : ByteArray) : ∀ i, (wst s i).1 ≤ i
  | 0 => Nat.le_refl _
  | i + 1 => by
    unfold wst
    split
    · have := wst_le s i; omega
    · exact Nat.le_refl _
theorem wst_len (s : ByteArray) : ∀ i, (wst s i).2.length ≤ i
  | 0 => Nat.le_refl _
  | i + 1 => by
    have := wst_len s i
    unfold wst
    split
    · omega
    · split
      · simp; omega
      · show (wst s i).2.length ≤ _; omega
theorem wst_in {s : ByteArray} {i : Nat} (h : inWord s i = true) : wst s (i + 1) = wst s i := by
  conv => lhs; unfold wst
  rw [if_pos h]
theorem wst_gap {s : ByteArray} {i : Nat} (h : inWord s i = false) (hf : ¬ (wst s i).1 < i) : wst s (i + 1) = (i + 1, (wst s i).2) := by
  conv => lhs; unfold wst
  rw [h, if_neg (by simp), if_neg hf]
theorem wst_word {s : ByteArray} {i : Nat} (h : inWord s i = false) (hf : (wst s i).1 < i) : wst s (i + 1) = (i + 1, (wst s i).2 ++ [s.extract (wst s i).1 i]) := by
  conv => lhs; unfold wst
  rw [h, if_neg (by simp), if_pos hf]
/-- a line of which nothing is wrong -/
structure LineP (s : ByteArray) : Prop where
  chars : ∀ c ∈ s.data.toList, c ≠ 35 ∧ (c = 32 ∨ letterB c = true)
  small : s.size ≤ 4096
  short : ∀ i, i < s.size + 1 → i - (wst s i).1 ≤ 16
  few : (wordsF s).length ≤ 14
/-- the strings that are gathered lie at vo -/
def StrIs (W0 : World) (l : List ByteArray) (n : Nat) (vo : Value) (wr : World) : Prop :=
  n = l.length ∧ wr.ownsRow W0.heap.size 9 1 vo n (l.flatMap sC) ∧ Below W0.heap.size W0 wr
theorem StrIs.app {W0 wr w2 : World} {n : Nat} {l l' : List ByteArray} {x : ByteArray} {vo v' : Value} {ob : Obj} (h : StrIs W0 l n vo wr)
    (ho : w2.ownsRow W0.heap.size 9 1 v' (n + 1) (l.flatMap sC ++ sC x)) (hg : (wr.alloc ob).grownBy w2 vo.ownBlock) (hl : l' = l ++ [x]) : StrIs W0 l' (n + 1) v' w2 := by
  subst hl
  exact ⟨by simp [h.1], by simpa using ho, (h.2.2.alloc h.2.2.size ob).grown hg (by have := h.2.2.size; simp; omega) (fun k hk => (h.2.1.lt k hk).1)⟩
theorem StrIs.ends {W0 wr : World} {n : Nat} {l : List ByteArray} {vo : Value} (h : StrIs W0 l n vo wr) : StrsAt wr l vo := LawFrame.RowsAt.of_own sC_len (by decide) h.2.1
def WordsIs (l : List ByteArray) (w : World) (e : Ending) (w' : World) : Prop := ∃ v, e = .returned (.tuple #[v, .int .i64 0]) ∧ (w'.ownsRow w.heap.size 9 1 v l.length (l.flatMap sC)) ∧ Below w.heap.size w w'
theorem own_ne {W : World} {base base' size size' n n' : Nat} {e e' : TypeId} {v v' : Value} {xs xs' : List Value} (h : W.ownsRow base e size v n xs) (h' : W.ownsRow base' e' size' v' n' xs') (hne : e ≠ e') : v.ownBlock = none ∨ v.ownBlock ≠ v'.ownBlock := by
  rcases h.2 with ⟨rfl, _⟩ | ⟨g, cap, cur, rfl, _, hg, _⟩
  · exact .inl rfl
  · refine .inr (fun ee => ?_)
    rcases h'.2 with ⟨rfl, _⟩ | ⟨g', cap', cur', rfl, _, hg', _⟩
    · simp [Value.ownBlock] at ee
    · simp only [Value.ownBlock, Option.some.injEq] at ee
      subst ee
      rw [hg] at hg'
      injection hg' with hg'
      injection hg' with _ hg'
      exact hne hg'
theorem own_form {w : World} {base : Nat} {e : TypeId} {size n : Nat} {v : Value} {xs : List Value} (h : w.ownsRow base e size v n xs) : ∃ A c, v = .slice A n c := by
  obtain ⟨-, h⟩ := h
  rcases h with ⟨rfl, rfl⟩ | ⟨g, cap, cur, rfl, -⟩
  · exact ⟨_, _, rfl⟩
  · exact ⟨_, _, rfl⟩
set_option maxHeartbeats 4000000 in
set_option maxRecDepth 100000 in
theorem words_any (w : World) (s : ByteArray) (hs : LineP s) :
    Calls Try.prog 53 #[.string s] w (WordsIs (wordsF s) w) := by
  obtain ⟨i0, hi0, hz0, hz1, hz2⟩ := string_parts
  have HS := Lib.hid hs
  have hsz := hs.small
  clear hs
  go_enter Try.func53, Try.ntmps53
  go_wp2_with fail
  go_loopw [5, 6] (fun en i wr => ∃ k : Nat, k ≤ s.size ∧ en = .int .i64 (s.size : Int) ∧ i = .int .i64 ((k : Int) - 1) ∧ Hid (w = wr)) (fun _ i _ => ((intOf i) + 1).toNat)
  case atStart => exact ⟨s.size, Nat.le_refl _, rfl, rfl, Lib.hid rfl⟩
  case round =>
    obtain ⟨k, hk, rfl, rfl, HW⟩ := hrel
    rcases Nat.eq_zero_or_pos k with h0 | h0
    · subst h0
      rw [show (((0 : Nat) : Int) - 1) = -1 from rfl]
      go_wp2_with fail
      go_loopw [7] (fun i wr => ∃ k : Nat, k ≤ s.size ∧ i = .int .i64 (k : Int) ∧ Hid (w = wr)) (fun i _ => s.size - (intOf i).toNat)
      case atStart => exact ⟨0, Nat.zero_le _, rfl, HW⟩
      case round =>
        clear HW
        obtain ⟨k, hk, rfl, HW⟩ := hrel
        by_cases hlt : k < s.size
        · obtain ⟨c, hc⟩ := string_at hlt
          have hix := fun w => index_at (P := Try.prog) (t := 9) (by go_side) hc w
          have hk1 : (k : Int) < (s.size : Int) := by omega
          have hcs := (HS.out.chars c (List.mem_of_getElem? hc)).2
          clear hc
          by_cases h32 : (c.toNat : Int) = 32
          · have h1 : ((c.toNat : Int) == 32) = true := by simp only [beq_iff_eq]; exact h32
            have h2 : ((c.toNat : Int) != 32) = false := by rw [bne, h1]; rfl
            clear h32 hcs
            go_wp2_with fail
            go_roundw
            case rel => exact ⟨k + 1, by omega, by go_num, HW⟩
            case measure => simp [intOf]; omega
          · have HLB := Lib.hid (show letterB c = true by
              rcases hcs with e | e
              · exact absurd (by rw [e]; rfl) h32
              · exact e)
            have h1 : ((c.toNat : Int) == 32) = false := by rw [beq_eq_false_iff_ne]; exact h32
            have h2 : ((c.toNat : Int) != 32) = true := by rw [bne, h1]; rfl
            clear h32 hcs
            go_wp2_with fail
            refine (rletter_any _ c).mono ?_
            rintro e w1 ⟨rfl, rfl⟩
            rw [HLB.out]
            go_wp2_with fail
            go_roundw
            case rel => exact ⟨k + 1, by omega, by go_num, HW⟩
            case measure => simp [intOf]; omega
        · have hk2 : ¬ (k : Int) < (s.size : Int) := by omega
          go_wp2_with fail
          clear hk2 hlt hk
          have HI0 : Hid (StrIs w (wst s 0).2 0 (.slice none 0 0) wr) := Lib.hid ⟨rfl, World.ownsRow_nil _ _ _ _, by rw [HW.out]; exact Below.refl _ _⟩
          go_loopw [4, 8, 9] (fun o f i wr => ∃ (k n F : Nat), k ≤ s.size + 1 ∧ i = .int .i64 (k : Int) ∧ f = .int .i64 (F : Int) ∧ (F ≤ k ∧ n ≤ k) ∧ Hid (F = (wst s k).1) ∧ Hid (StrIs w (wst s k).2 n o wr)) (fun _ _ i _ => s.size + 1 - (intOf i).toNat)
          case atStart => exact ⟨0, 0, 0, Nat.zero_le _, rfl, rfl, ⟨Nat.le_refl _, Nat.le_refl _⟩, Lib.hid rfl, HI0⟩
          case round =>
            clear HI0 HW
            obtain ⟨k, n, F, hk, rfl, rfl, hF, HF, HI⟩ := hrel
            by_cases hlt : k < s.size + 1
            · have hk1 : (k : Int) ≤ (s.size : Int) := by omega
              have hsh := HS.out.short k hlt
              rw [← HF.out] at hsh
              have hsh1 : ¬ 16 < (k : Int) - (F : Int) := by omega
              cases hin : inWord s k with
              | true =>
                have HN : Hid ((wst s (k + 1)) = wst s k) := Lib.hid (wst_in hin)
                have hks : k < s.size := by
                  rcases Nat.lt_or_ge k s.size with h | h
                  · exact h
                  · unfold inWord at hin
                    rw [List.getElem?_eq_none (by simpa using h)] at hin
                    cases hin
                obtain ⟨c, hc⟩ := string_at hks
                have hix := fun w => index_at (P := Try.prog) (t := 9) (by go_side) hc w
                have hk2 : (k : Int) < (s.size : Int) := by omega
                have h1 : ((c.toNat : Int) == 32) = false := by
                  unfold inWord at hin
                  rw [hc] at hin
                  rw [beq_eq_false_iff_ne]
                  intro e
                  have : c = 32 := UInt8.toNat_inj.1 (by have h9 : (32 : UInt8).toNat = 32 := rfl; omega)
                  rw [this] at hin
                  cases hin
                have h2 : ((c.toNat : Int) != 32) = true := by rw [bne, h1]; rfl
                have HF2 : Hid (F = (wst s (k + 1)).1) := Lib.hid (by rw [HN.out]; exact HF.out)
                have HI2 : Hid (StrIs w (wst s (k + 1)).2 n u4 wr) := Lib.hid (by rw [HN.out]; exact HI.out)
                clear hc hin HN HF HI
                go_wp2_with fail
                go_roundw
                case rel => exact ⟨k + 1, n, F, by omega, by go_num, by go_num, ⟨by omega, by omega⟩, HF2, HI2⟩
                case measure => simp [intOf]; omega
              | false =>
                have hcs : k = s.size ∨ (k < s.size ∧ s.data.toList[k]? = some 32) := by
                  rcases Nat.lt_or_ge k s.size with h | h
                  · obtain ⟨c, hc⟩ := string_at h
                    refine .inr ⟨h, ?_⟩
                    unfold inWord at hin
                    rw [hc] at hin
                    simp only [bne_eq_false_iff_eq] at hin
                    rw [hc, hin]
                  · exact .inl (by omega)
                have HIN := Lib.hid hin
                clear hin
                rcases Nat.lt_or_ge F k with hFk | hFk
                · have HN := Lib.hid (wst_word HIN.out (by rw [← HF.out]; exact hFk))
                  have HF2 : Hid (k + 1 = (wst s (k + 1)).1) := Lib.hid (by rw [HN.out])
                  have hFk1 : (F : Int) < (k : Int) := by omega
                  have hF0 : (0 : Int) ≤ (F : Int) := by omega
                  have HNL : Hid ((wst s (k + 1)).2 = (wst s k).2 ++ [s.extract F k]) := Lib.hid (by rw [HN.out, HF.out])
                  have hwr := HI.out.2.2.size
                  have HO := Lib.hid (one_str (s.extract F k))
                  clear HN HF
                  rcases hcs with hks | ⟨hks, hc⟩
                  · have hk2 : ¬ (k : Int) < (s.size : Int) := by omega
                    clear hks
                    go_wp2_with (at_builtin; refine Words.wpList_append_any _ rfl (.tmp 61) (.tmp 66) _ rfl w.heap.size 9 i0 _ 1 16 Try.underlying62 hi0 hz0 hz1 hz2 rfl (by omega) u4 n _ rfl (HI.out.2.1.alloc _) (wr.heap.size + 1) (some ⟨wr.heap.size, 0, none⟩) 1 1 (sC (s.extract F k)) rfl (reads_str _ _ rfl (s.extract F k) _) HO.out (by simp only [maxLen]; omega) (by omega) (by simp; omega) ?_; intro v' w2 ho hg hat; have HI2 := Lib.hid (HI.out.app ho hg HNL.out); clear ho hg hat HI)
                    go_roundw
                    case rel => exact ⟨k + 1, n + 1, k + 1, by omega, by go_num, by go_num, ⟨by omega, by omega⟩, HF2, HI2⟩
                    case measure => simp [intOf]; omega
                  · have hk2 : (k : Int) < (s.size : Int) := by omega
                    have hix := fun w => index_at (P := Try.prog) (t := 9) (by go_side) hc w
                    rw [show ((32 : UInt8).toNat : Int) = 32 from rfl] at hix
                    clear hks hc
                    go_wp2_with (at_builtin; refine Words.wpList_append_any _ rfl (.tmp 61) (.tmp 66) _ rfl w.heap.size 9 i0 _ 1 16 Try.underlying62 hi0 hz0 hz1 hz2 rfl (by omega) u4 n _ rfl (HI.out.2.1.alloc _) (wr.heap.size + 1) (some ⟨wr.heap.size, 0, none⟩) 1 1 (sC (s.extract F k)) rfl (reads_str _ _ rfl (s.extract F k) _) HO.out (by simp only [maxLen]; omega) (by omega) (by simp; omega) ?_; intro v' w2 ho hg hat; have HI2 := Lib.hid (HI.out.app ho hg HNL.out); clear ho hg hat HI)
                    go_roundw
                    case rel => exact ⟨k + 1, n + 1, k + 1, by omega, by go_num, by go_num, ⟨by omega, by omega⟩, HF2, HI2⟩
                    case measure => simp [intOf]; omega
                · have HN := Lib.hid (wst_gap HIN.out (by rw [← HF.out]; omega))
                  have HF2 : Hid (k + 1 = (wst s (k + 1)).1) := Lib.hid (by rw [HN.out])
                  have hFk1 : ¬ (F : Int) < (k : Int) := by omega
                  have HI2 : Hid (StrIs w (wst s (k + 1)).2 n u4 wr) := Lib.hid (by rw [HN.out]; exact HI.out)
                  clear HN HF HI
                  rcases hcs with hks | ⟨hks, hc⟩
                  · have hk2 : ¬ (k : Int) < (s.size : Int) := by omega
                    clear hks
                    go_wp2_with fail
                    go_roundw
                    case rel => exact ⟨k + 1, n, k + 1, by omega, by go_num, by go_num, ⟨by omega, by omega⟩, HF2, HI2⟩
                    case measure => simp [intOf]; omega
                  · have hk2 : (k : Int) < (s.size : Int) := by omega
                    have hix := fun w => index_at (P := Try.prog) (t := 9) (by go_side) hc w
                    rw [show ((32 : UInt8).toNat : Int) = 32 from rfl] at hix
                    clear hks hc
                    go_wp2_with fail
                    go_roundw
                    case rel => exact ⟨k + 1, n, k + 1, by omega, by go_num, by go_num, ⟨by omega, by omega⟩, HF2, HI2⟩
                    case measure => simp [intOf]; omega
            · have hks : k = s.size + 1 := by omega
              have HFI : Hid (StrIs w (wordsF s) n u4 wr) := Lib.hid (by have h := HI.out; rw [hks] at h; exact h)
              have hn14 : n ≤ 14 := by have h1 := HS.out.few; have h2 := HFI.out.1; omega
              have hk2 : ¬ (k : Int) ≤ (s.size : Int) := by omega
              obtain rfl := HFI.out.1
              obtain ⟨A, c, e⟩ := own_form HFI.out.2.1
              subst e
              clear hks HI HF
              go_wp2_with fail
              go_ret2
              exact ⟨_, rfl, HFI.out.2.1, HFI.out.2.2⟩
    · obtain ⟨j, rfl⟩ : ∃ j, k = j + 1 := ⟨k - 1, by omega⟩
      have hj : ((j + 1 : Nat) : Int) - 1 = (j : Int) := by omega
      rw [hj]
      obtain ⟨c, hc⟩ := string_at (s := s) (k := j) (by omega)
      have hix := fun w => index_at (P := Try.prog) (t := 9) (by go_side) hc w
      have hk1 : (j : Int) < (s.size : Int) := by omega
      have hk0 : (0 : Int) ≤ (j : Int) := by omega
      have h1 : ((c.toNat : Int) == 35) = false := by
        rw [beq_eq_false_iff_ne]
        intro e
        exact (HS.out.chars c (List.mem_of_getElem? hc)).1 (UInt8.toNat_inj.1 (by have h9 : (35 : UInt8).toNat = 35 := rfl; omega))
      clear hc hj
      go_wp2_with fail
      go_roundw
      case rel => exact ⟨j, by omega, rfl, rfl, HW⟩
      case measure => simp [intOf]
end Go.Proofs.Ytbpenoelmangkaa
