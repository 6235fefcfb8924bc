/-
  THE WALK of strings.Cut at a separator of one byte: the text before it, and behind it.
-/
import Derived.Test.YtpoihpehdlogbaaDoorLexWords
import Derived.Lib.IndexBytes
import Derived.Lib.CutLaws
namespace Go.Proofs.YtpoihpehdlogbaaDoor
open Go.RowKit
/-- a text, before and behind the first such byte -/
def cut1 (c : UInt8) : List UInt8 → List UInt8 × List UInt8 × Bool
  | [] => ([], [], false)
  | b :: l => if b == c then ([], l, true) else (b :: (cut1 c l).1, (cut1 c l).2.1, (cut1 c l).2.2)
theorem cut1_is (c : UInt8) : ∀ l : List UInt8, Lib.cut l [c] = cut1 c l
  | [] => by unfold Lib.cut; rw [Lib.index_one]; rfl
  | b :: l => by
    have ih := cut1_is c l
    have hge := Lib.indexByte_ge l c
    unfold Lib.cut at ih ⊢
    rw [Lib.index_one] at ih ⊢
    unfold Lib.indexByte cut1
    by_cases hb : (b == c) = true
    · simp [hb]
    · simp only [Bool.not_eq_true] at hb
      rw [← ih]
      by_cases hx : Lib.indexByte l c = -1
      · simp [hb, hx]
      · have h0 : 0 ≤ Lib.indexByte l c := by omega
        have h1 : (Lib.indexByte l c == -1) = false := by rw [beq_eq_false_iff_ne]; exact hx
        have h2 : 0 ≤ Lib.indexByte l c + 1 := by omega
        have h3 : (Lib.indexByte l c + 1).toNat = (Lib.indexByte l c).toNat + 1 := by omega
        simp only [hb, h1, Bool.false_eq_true, if_false, if_pos h2, if_pos h0, h3, List.take_succ_cons, List.length_singleton, List.drop_succ_cons]
theorem cut1_first (c : UInt8) : ∀ l : List UInt8, (cut1 c l).1 = l.takeWhile (· != c)
  | [] => rfl
  | b :: l => by
    unfold cut1
    by_cases hb : (b == c) = true
    · rw [if_pos hb, List.takeWhile_cons, if_neg (by simp [bne, hb])]
    · rw [if_neg hb, List.takeWhile_cons, if_pos (by simp [bne, hb]), cut1_first c l]
theorem strip_cut (l : List UInt8) : (cut1 35 l).1 = strip l := cut1_first 35 l
theorem cut1_hit {c b : UInt8} (h : (b == c) = true) (l : List UInt8) : cut1 c (b :: l) = ([], l, true) := by
  rw [cut1, if_pos h]
theorem cut1_skip {c b : UInt8} (h : ¬ (b == c) = true) (l : List UInt8) : cut1 c (b :: l) = (b :: (cut1 c l).1, (cut1 c l).2.1, (cut1 c l).2.2) := by
  rw [cut1, if_neg h]
theorem pieces_hit {c b : UInt8} (h : (b == c) = true) (l : List UInt8) : pieces c (b :: l) = [] :: pieces c l := by
  rw [pieces, if_pos h]
theorem pieces_skip {c b : UInt8} (h : ¬ (b == c) = true) {l p : List UInt8} {ps : List (List UInt8)} (hp : pieces c l = p :: ps) : pieces c (b :: l) = (b :: p) :: ps := by
  rw [pieces, if_neg h, hp]
theorem cut1_yes (c : UInt8) : ∀ l : List UInt8, (cut1 c l).2.2 = true → pieces c l = (cut1 c l).1 :: pieces c (cut1 c l).2.1
  | [], h => by simp [cut1] at h
  | b :: l, h => by
    by_cases hb : (b == c) = true
    · rw [cut1_hit hb, pieces_hit hb]
    · rw [cut1_skip hb] at h ⊢
      rw [pieces_skip hb (cut1_yes c l h)]
theorem cut1_no (c : UInt8) : ∀ l : List UInt8, (cut1 c l).2.2 = false → pieces c l = [l] ∧ (cut1 c l).1 = l ∧ (cut1 c l).2.1 = []
  | [], _ => ⟨rfl, rfl, rfl⟩
  | b :: l, h => by
    by_cases hb : (b == c) = true
    · rw [cut1_hit hb] at h; cases h
    · rw [cut1_skip hb] at h ⊢
      obtain ⟨h1, h2, h3⟩ := cut1_no c l h
      rw [pieces_skip hb h1, h2, h3]; exact ⟨rfl, rfl, rfl⟩
theorem cut1_len (c : UInt8) : ∀ l : List UInt8, (cut1 c l).1.length ≤ l.length ∧ (cut1 c l).2.1.length ≤ l.length ∧ ((cut1 c l).2.2 = true → (cut1 c l).2.1.length < l.length)
  | [] => by simp [cut1]
  | b :: l => by
    obtain ⟨h1, h2, h3⟩ := cut1_len c l
    by_cases hb : (b == c) = true
    · rw [cut1_hit hb]; simp
    · rw [cut1_skip hb]
      simp only [List.length_cons]
      exact ⟨by omega, by omega, fun h => by have := h3 h; omega⟩
/-- what Cut hands back -/
def CutIs (s : ByteArray) (c : UInt8) (w : World) (e : Ending) (w' : World) : Prop :=
  e = .returned (.tuple #[.string (toB (cut1 c s.data.toList).1), .string (toB (cut1 c s.data.toList).2.1), .bool (cut1 c s.data.toList).2.2]) ∧ ∃ n, w' = w.drewN n
set_option maxHeartbeats 2000000 in
set_option maxRecDepth 100000 in
theorem cutIn_any (w : World) (s : ByteArray) (c : UInt8) (hs : s.size < 4294967281) :
    Calls Tryd.prog 27 #[.string s, .string ⟨#[c]⟩] w (CutIs s c w) := by
  unfold CutIs
  rw [← cut1_is c s.data.toList]
  unfold toB
  rcases Lib.indexB_cases s ⟨#[c]⟩ with hix | ⟨i, hix, hroom⟩
  · obtain ⟨e1, e2, e3⟩ := Lib.cutB_miss s ⟨#[c]⟩ hix
    have e1' := Lib.hid e1
    have e2' := Lib.hid e2
    have e3' := Lib.hid e3
    have HX : Hid (Lib.indexByte s.data.toList c = -1) := Lib.hid ((Lib.index_one s.data.toList c).symm.trans hix)
    clear e1 e2 e3 hix
    go_enter Tryd.func27, Tryd.ntmps27
    go_wp2_with (go_at_call 30; refine (Tryd.stringslite_Index_one s c w).mono ?_; rintro e w' ⟨rfl, rfl⟩; rw [HX.out])
    go_ret3
    exact ⟨by rw [show (Lib.cut s.data.toList [c]) = (Lib.cut s.data.toList (⟨#[c]⟩ : ByteArray).data.toList) from rfl, e1'.out, e2'.out, e3'.out]; rfl, 0, rfl⟩
  · obtain ⟨e1, e2, e3⟩ := Lib.cutB_hit s ⟨#[c]⟩ i hix
    have e1' := Lib.hid e1
    have e2' := Lib.hid e2
    have e3' := Lib.hid e3
    have hz : (⟨#[c]⟩ : ByteArray).size = 1 := rfl
    rw [hz] at hroom
    have c1 : (0 : Int) ≤ ↑i := by omega
    have c2 : (↑i : Int) ≤ ↑s.size := by omega
    have c3 : (0 : Int) ≤ ↑i + 1 := by omega
    have c4 : (↑i + 1 : Int) ≤ ↑s.size := by omega
    have HX : Hid (Lib.indexByte s.data.toList c = i) := Lib.hid ((Lib.index_one s.data.toList c).symm.trans hix)
    clear e1 e2 e3 hix
    go_enter Tryd.func27, Tryd.ntmps27
    go_wp2_with (go_at_call 30; refine (Tryd.stringslite_Index_one s c w).mono ?_; rintro e w' ⟨rfl, rfl⟩; rw [HX.out])
    go_region
    go_wp2
    go_ret3
    exact ⟨by rw [show (Lib.cut s.data.toList [c]) = (Lib.cut s.data.toList (⟨#[c]⟩ : ByteArray).data.toList) from rfl, e1'.out, e2'.out, e3'.out]; rfl, 1, rfl⟩
theorem cut_any (w : World) (s : ByteArray) (c : UInt8) (hs : s.size < 4294967281) :
    Calls Tryd.prog 25 #[.string s, .string ⟨#[c]⟩] w (CutIs s c w) := by
  go_enter Tryd.func25, Tryd.ntmps25
  go_wp2_with (go_at_call 27; refine (cutIn_any w s c hs).mono ?_; rintro e w' ⟨rfl, n, rfl⟩)
  go_ret3
  exact ⟨rfl, n, rfl⟩
end Go.Proofs.YtpoihpehdlogbaaDoor
