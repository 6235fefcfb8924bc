/-
  THE WALK of lex.numbered: the iterator over a text's lines.
-/
import Derived.Test.YtpoihpehdlogbaaDoorLexCut
import Derived.Test.YtpoihpehdlogbaaDoorLexRange
import Derived.Shelf.Abstract
import Derived.Shelf.RegionOpen
import Derived.OwnWalkIn
import Derived.TacticsInMore
import Derived.LoopNIn
import Derived.LoopIn
import Derived.RangeFuncBox
namespace Go.Proofs.YtpoihpehdlogbaaDoor
open Go.RowKit Go.Shelf
attribute [local go_sem] Oper.semAt_some

abbrev encItem (x : Nat × List UInt8) : Array Value := #[.int .i64 (x.1 : Int), .string (toB x.2)]
theorem numbered_any (s : ByteArray) (w : World) : Calls Tryd.prog 21 #[.string s] w fun e w' => e = .returned (.func (.func 24) #[] #[.pointer (some ⟨w.heap.size, 0, none⟩)]) ∧ w.alloc (.cells #[.string s] 9) = w' := by
  go_enter Tryd.func21, Tryd.ntmps21
  go_wp2_with fail
  go_ret
  exact ⟨rfl, rfl⟩
theorem cut_list {c : UInt8} {l a b : List UInt8} {m : Bool} (h : cut1 c l = (a, b, m)) (hs : l.length < 4294967281) (w : World) :
    Calls Tryd.prog 25 #[.string (toB l), .string ⟨#[c]⟩] w fun e w' => e = .returned (.tuple #[.string (toB a), .string (toB b), .bool m]) ∧ ∃ n, w' = w.drewN n := by
  refine (cut_any w (toB l) c (by rw [toB_size]; exact hs)).mono ?_
  intro e w' hc
  unfold CutIs at hc
  rw [toB_list, h] at hc
  exact hc
theorem grown_drewN (w : World) (n : Nat) : w.grownBy (w.drewN n) none := ⟨rfl, rfl, rfl, Nat.le_refl _, fun _ _ _ => rfl⟩
/-- what is still to come -/
def Left (its pre : List (Nat × List UInt8)) (no : Nat) (l : List UInt8) (more : Bool) : Prop := its = pre ++ (if more = true then items no (pieces 10 l) else [])
theorem left_next {its pre : List (Nat × List UInt8)} {no : Nat} {l a b : List UInt8} {m : Bool} (h : Left its pre no l true) (hc : cut1 10 l = (a, b, m)) : (∃ post, its = pre ++ (no, strip a) :: post) ∧ Left its (pre ++ [(no, strip a)]) (no + 1) b m := by
  unfold Left at h ⊢
  rw [if_pos rfl] at h
  cases m with
  | true =>
    have h1 := cut1_yes 10 l (by rw [hc])
    rw [hc] at h1
    rw [h1] at h
    rw [if_pos rfl]
    refine ⟨⟨items (no + 1) (pieces 10 b), by rw [h]; rfl⟩, ?_⟩
    rw [h]
    simp [items]
  | false =>
    have h1 := cut1_no 10 l (by rw [hc])
    rw [hc] at h1
    obtain ⟨h1, h2, -⟩ := h1
    simp only at h2
    subst h2
    rw [h1] at h
    rw [if_neg (by decide)]
    exact ⟨⟨[], by rw [h]; rfl⟩, by rw [h]; simp [items]⟩
theorem left_len {its pre : List (Nat × List UInt8)} {no : Nat} {l : List UInt8} {m : Bool} (h : Left its pre no l m) : pre.length ≤ its.length := by
  unfold Left at h; rw [h]; simp
set_option maxRecDepth 100000 in
set_option maxHeartbeats 2000000 in
/-- THE ITERATOR, where each round goes on or panics. -/
theorem numbered_iter (l0 : List UInt8) (hl0 : l0.length ≤ 1000000) (Bb : Nat) (w : World) (hb : w.heap[Bb]? = some (.cells #[.string (toB l0)] 9 (0, 0))) (n : Nat) :
    Ranged.Iter n Tryd.prog 24 #[.pointer (some ⟨Bb, 0, none⟩)] encItem (itemsOf l0) w := by
  intro lp J Bad W hgW hJ hY h0
  have HY := Lib.hid hY
  have HJ := Lib.hid hJ
  have hb1 : W.cell? ⟨Bb, 0, none⟩ = some (.string (toB l0)) := cell_of_row _ _ _ _ _ _ ((hgW.block _ (Array.getElem?_eq_some_iff.1 hb).1 (by simp)).trans hb)
  clear hY hJ hgW hb
  refine callsIn_of_wp Tryd.func24 rfl trivial ?_ rfl
  simp only [Tryd.ntmps24, List.size_toArray, List.length_cons, List.length_nil, Nat.reduceAdd, Nat.reduceSub, Array.replicate_succ, Array.replicate_zero, List.push_toArray, List.append_toArray, List.nil_append, List.cons_append]
  gi_wp2
  clear hb1
  gi_loopw [3, 4, 5] (fun p q r wr => ∃ (pre : List (Nat × List UInt8)) (no : Nat) (l : List UInt8) (m : Bool), p = .string (toB l) ∧ q = .bool m ∧ r = .int .i64 (no : Int) ∧ (m = true → no + l.length ≤ 1000001) ∧ Hid (Left (itemsOf l0) pre no l m) ∧ Hid (J pre wr))
    (fun p q _ _ => match p, q with | .string s, .bool true => s.size + 1 | _, _ => 0)
  case atStart => exact ⟨[], 1, l0, true, rfl, rfl, rfl, fun _ => by omega, Lib.hid (by unfold Left itemsOf; simp), Lib.hid h0⟩
  case round =>
    obtain ⟨pre, no, l, m, rfl, rfl, rfl, hno, HL, HJ'⟩ := hrel
    cases m with
    | false =>
      gi_wp2
      refine bodyPost_end (results_none rfl _ _ _) rfl ?_
      have h1 := HL.out
      unfold Left at h1
      rw [if_neg (by decide), List.append_nil] at h1
      exact .inl ⟨⟨_, rfl⟩, by rw [h1]; exact HJ'.out⟩
    | true =>
      have hno := hno rfl
      obtain ⟨a, b, m2, hc⟩ : ∃ a b m2, cut1 10 l = (a, b, m2) := ⟨_, _, _, rfl⟩
      obtain ⟨a', b', m', hc'⟩ : ∃ a' b' m', cut1 35 a = (a', b', m') := ⟨_, _, _, rfl⟩
      have hlen := cut1_len 10 l
      rw [hc] at hlen
      obtain ⟨la, lb, lm⟩ := hlen
      obtain ⟨hpost, hnext⟩ := left_next HL.out hc
      have hst : strip a = a' := by rw [← strip_cut, hc']
      rw [hst] at hpost hnext
      have HP := Lib.hid hpost
      have HN := Lib.hid hnext
      have HC := Lib.hid hc
      have HC' := Lib.hid hc'
      clear hpost hnext hc hc' hst
      dsimp only at la lb lm
      have hno1 : (no : Int) ≤ 1000001 := by omega
      have hno0 : (0 : Int) ≤ (no : Int) := by omega
      have hl1 : l.length < 4294967281 := by omega
      have hl2 : a.length < 4294967281 := by omega
      gi_wp2_with (refine ⟨trivial, fun h => absurd h (by decide), ?_⟩; gi_at_call 25; first | ((with_reducible show CallsIn _ _ _ _ #[.string (toB l), _] _ _); refine (callsIn_wide.2 (cut_list HC.out hl1 wr)).mono ?_; rintro e1 w1 ⟨rfl, n1, rfl⟩) | ((with_reducible show CallsIn _ _ _ _ #[.string (toB a), _] _ _); refine (callsIn_wide.2 (cut_list HC'.out hl2 _)).mono ?_; rintro e1 w1 ⟨rfl, n2, rfl⟩; have hJ1 := HJ.out _ _ _ HJ'.out (grown_drewN wr (n1 + n2)); obtain ⟨yf, yt, ya, yb, hy, hRd⟩ := HY.out pre (no, a') (wr.drewN (n1 + n2)) hJ1 HP.out; have HRd := Lib.hid hRd; dsimp only [encItem] at hy; clear hRd hJ1))
      refine ⟨fun h => absurd h (by decide), HRd.out.mono ?_⟩
      rintro e3 W3 (⟨rfl, hJ3⟩ | ⟨ch, rfl, hb3⟩)
      · have HJ3 := Lib.hid hJ3
        clear hJ3 HRd hy
        gi_wp2
        go_roundw
        case rel => exact ⟨pre ++ [(no, a')], no + 1, b, m2, rfl, rfl, by go_num, fun e => by have := lm e; omega, HN, HJ3⟩
        case measure => cases m2 <;> simp_all [toB_size] <;> omega
      · exact ⟨rfl, .inr ⟨ch, rfl, hb3⟩⟩
end Go.Proofs.YtpoihpehdlogbaaDoor
