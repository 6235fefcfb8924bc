/-
  VoteLess: of some of which all must trip, one that is bypassed leaves it to the others; one that is not known does as one that trips. For every input, with no condition.
-/
import Derived.Test.YtpgkiilikodbpaaOwn
import Derived.Test.YtpgkiilikodbpaaOpen
namespace Go.Proofs.Ytpgkiilikodbpaa
open Go.RowKit Go.ChangeShapes Go.WideShapes

theorem val_bool {a b : Bool} (h : a = b) : Value.bool a = Value.bool b := by rw [h]
theorem less_walk (l : List Inn) (b off c : Nat) (at_ : Nat) (w : World) (hat : at_ < 65536) (h0 : 0 < l.length) (hl : l.length ≤ 5000) (h : InnAt w l (.slice (some ⟨b, off, none⟩) l.length c)) :
    Calls Try.prog 7 #[.slice (some ⟨b, off, none⟩) l.length c, .int .u16 at_] w fun e w' => e = .returned (.bool true) ∧ Below w.heap.size w w' := by
  have H := Lib.hid h
  clear h
  have hne : ((l.length : Int) == 0) = false := beq_eq_false_iff_ne.2 (by omega)
  obtain ⟨k, hk, hmod⟩ : ∃ k, k < l.length ∧ (at_ : Int) % (l.length : Int) = (k : Int) := ⟨at_ % l.length, Nat.mod_lt _ h0, by simp⟩
  go_enter Try.func7, Try.ntmps7
  go_wp2_with fail
  refine (head_any _).mono ?_
  rintro e w1 ⟨rfl, hb1⟩
  have HI1 := Lib.hid (H.out.below hb1)
  go_wp2_with (at_builtin; refine wpList_append_inn rfl (.tmp 29) (.tmp 30) rfl rfl b off c l rfl HI1.out h0 hl ?_)
  intro g cap w2 hO hb2
  have hx : l[k]? = some l[k] := List.getElem?_eq_getElem hk
  obtain ⟨x0, x1, x2⟩ := hO.cells hx
  have f2 := hO.frozen (k * 3 + 2)
  have HO := Lib.hid hO
  clear hO hx
  go_wp2_with fail
  have hO3 := HO.out.set (d := 2) (u := .bool true) (y := { l[k] with byp := true }) (by omega) (List.getElem?_eq_getElem hk) rfl
  have B2 : Below w.heap.size w w2 := hb1.trans (hb2.mono hb1.size)
  have hs1 := hb1.size
  have B3 : Below w.heap.size w (w2.setCell ⟨g, k * 3 + 2, none⟩ (.bool true)) := B2.setCell (Nat.le_trans hs1 HO.out.lt.1) _
  have I3 : InnAt (w2.setCell ⟨g, k * 3 + 2, none⟩ (.bool true)) l (.slice (some ⟨b, off, none⟩) l.length c) := H.out.below B3
  obtain ⟨l3, hl3⟩ : ∃ l3, l3 = l.set k { l[k] with byp := true } := ⟨_, rfl⟩
  rw [← hl3] at hO3
  have hn3 : l3.length = l.length := by rw [hl3, List.length_set]
  have HL3 := Lib.hid hl3
  have HN3 := Lib.hid hn3
  have HI3 := Lib.hid I3
  clear HO x0 x1 x2 f2 hl3 B2 I3 hb1 hb2
  generalize w2.setCell ⟨g, k * 3 + 2, none⟩ (.bool true) = w3 at *
  have HO3 := Lib.hid hO3
  have hl3b : l3.length ≤ 5000 := by omega
  clear hO3 hn3
  go_loop [9, 10, 11] (fun r a i => ∃ j : Nat, j ≤ l.length ∧ i = .int .i64 j ∧ a = .bool (anyB (l3.take j)) ∧ r = .bool (allB (l3.take j))) (fun _ _ i => l.length - (intOf i).toNat)
  case atStart => exact ⟨0, Nat.zero_le _, rfl, rfl, rfl⟩
  case round =>
    obtain ⟨j, hj, rfl, rfl, rfl⟩ := hrel
    by_cases hlt : j < l.length
    · have hlt3 : j < l3.length := by rw [HN3.out]; exact hlt
      have hx : l3[j]? = some l3[j] := List.getElem?_eq_getElem hlt3
      obtain ⟨y0, y1, y2⟩ := HO3.out.cells hx
      have HA := Lib.hid (anyB_succ l3 j _ hx)
      have HB := Lib.hid (allB_succ l3 j _ hx)
      clear hx
      go_wp2
      all_goals
        go_round
        case rel => exact ⟨j + 1, by omega, by go_num, val_bool (by rw [HA.out]; simp_all), val_bool (by rw [HB.out]; simp_all)⟩
        case measure => simp [intOf]; omega
    · have hje : j = l.length := by omega
      subst hje
      have ht3 : l3.take l.length = l3 := List.take_of_length_le (by rw [HN3.out]; exact Nat.le_refl _)
      rw [ht3]
      clear ht3
      go_wp2_with (first
        | (at_builtin; refine wpList_append_inn rfl (.tmp 65) (.tmp 66) rfl rfl b off c l rfl HI3.out h0 hl ?_; intro g4 cap4 w4 hO4 hb4)
        | (at_builtin; refine wpList_append_inn rfl (.tmp 68) (.tmp 69) rfl rfl b off c l rfl (HI3.out.below hb4) h0 hl ?_; intro g5 cap5 w5 hO5 hb5
           have hxk : l[k]? = some l[k] := List.getElem?_eq_getElem hk
           have hO45 := hO4.below hb5
           obtain ⟨p0, p1, p2⟩ := hO45.cells hxk
           obtain ⟨q0, q1, q2⟩ := hO5.cells hxk
           have fp0 := hO45.frozen (k * 3)
           have fp1 := hO45.frozen (k * 3 + 1)
           have fp2 := hO45.frozen (k * 3 + 2)
           have fq0 := hO5.frozen (k * 3)
           have fq1 := hO5.frozen (k * 3 + 1)
           have fq2 := hO5.frozen (k * 3 + 2)
           have n45 : ¬ g4 = g5 := by have := hO4.lt.2; have := hO5.lt.1; omega
           have n54 : ¬ g5 = g4 := by omega
           have HO45 := Lib.hid hO45
           have HO5 := Lib.hid hO5
           clear hxk hO45 hO5))
      have hOy := (((HO45.out.set3 hk true false false).far (p := ⟨g5, k * 3, none⟩) n45 (.bool false)).far (p := ⟨g5, k * 3 + 1, none⟩) n45 (.bool true)).far (p := ⟨g5, k * 3 + 2, none⟩) n45 (.bool false)
      have hOz := (((HO5.out.far (p := ⟨g4, k * 3, none⟩) n54 (.bool true)).far (p := ⟨g4, k * 3 + 1, none⟩) n54 (.bool false)).far (p := ⟨g4, k * 3 + 2, none⟩) n54 (.bool false)).set3 hk false true false
      have B5 : Below w3.heap.size w3 w5 := hb4.trans (hb5.mono hb4.size)
      have B6 : Below w3.heap.size w3 ((((((w5.setCell ⟨g4, k * 3, none⟩ (.bool true)).setCell ⟨g4, k * 3 + 1, none⟩ (.bool false)).setCell ⟨g4, k * 3 + 2, none⟩ (.bool false)).setCell ⟨g5, k * 3, none⟩ (.bool false)).setCell ⟨g5, k * 3 + 1, none⟩ (.bool true)).setCell ⟨g5, k * 3 + 2, none⟩ (.bool false)) := by
        have h4 := HO45.out.lt.1
        have h5 := HO5.out.lt.1
        have := hb4.size
        exact (((((B5.setCell (by exact h4) _).setCell (by exact h4) _).setCell (by exact h4) _).setCell (by exact Nat.le_trans this h5) _).setCell (by exact Nat.le_trans this h5) _).setCell (by exact Nat.le_trans this h5) _
      have hOx := HO3.out.below B6
      clear p0 p1 p2 q0 q1 q2 fp0 fp1 fp2 fq0 fq1 fq2 B5 hb4 hb5 HO5 HO45
      have B7 := B3.trans (B6.mono B3.size)
      clear B6
      generalize (((((w5.setCell ⟨g4, k * 3, none⟩ (.bool true)).setCell ⟨g4, k * 3 + 1, none⟩ (.bool false)).setCell ⟨g4, k * 3 + 2, none⟩ (.bool false)).setCell ⟨g5, k * 3, none⟩ (.bool false)).setCell ⟨g5, k * 3 + 1, none⟩ (.bool true)).setCell ⟨g5, k * 3 + 2, none⟩ (.bool false) = w6 at *
      have hT : tripsL l.length l3 = (anyB l3 && allB l3) := by rw [← HN3.out]; exact trips_allB l3
      have HT := Lib.hid hT
      have HX := Lib.hid hOx.innAt
      have HY := Lib.hid hOy.innAt
      have HZ := Lib.hid hOz.innAt
      rw [List.length_set] at HY HZ
      rw [HN3.out] at HX
      clear hT hOx hOy hOz HL3 HI3 HO3 HI1 H
      have HE := Lib.hid (trips_set (a := ⟨true, false, false⟩) (b := ⟨false, true, false⟩) rfl rfl l.length l k)
      have HG := Lib.hid (cnt_set Inn.yes (a := ⟨true, false, false⟩) (b := ⟨false, true, false⟩) rfl l k)
      generalize anyB l3 = A at *
      generalize allB l3 = B at *
      refine (Trips_is (A && B) l.length l3 HT.out _ _ hl3b HX.out).mono ?_
      rintro e w7 ⟨rfl, hb7⟩
      have HY7 := Lib.hid (HY.out.below hb7)
      have HZ7 := Lib.hid (HZ.out.below hb7)
      have B8 := B7.trans (hb7.mono B7.size)
      clear HX HY HZ hb7 B7
      cases A <;> cases B
      all_goals
        go_wp2_with fail
        refine (Trips_is _ l.length _ HE.out _ _ (by simp; omega) HY7.out).mono ?_
        rintro e w8 ⟨rfl, hb8⟩
        have HY8 := Lib.hid (HY7.out.below hb8)
        have HZ8 := Lib.hid (HZ7.out.below hb8)
        have B9 := B8.trans (hb8.mono B8.size)
        clear hb8 B8 HY7 HZ7
        go_wp2_with fail
        refine (Trips_any l.length _ _ _ (by simp; omega) HZ8.out).mono ?_
        rintro e w9 ⟨rfl, hb9⟩
        have HY9 := Lib.hid (HY8.out.below hb9)
        have HZ9 := Lib.hid (HZ8.out.below hb9)
        have B10 := B9.trans (hb9.mono B9.size)
        clear hb9 B9 HY8 HZ8
        go_wp2_with fail
        refine (Yes_is _ _ (congrArg Int.ofNat HG.out) _ _ (by simp; omega) HY9.out).mono ?_
        rintro e w10 ⟨rfl, hb10⟩
        have HZ10 := Lib.hid (HZ9.out.below hb10)
        have B11 := B10.trans (hb10.mono B10.size)
        clear hb10 B10 HY9 HZ9
        go_wp2_with fail
        refine (Yes_any _ _ _ (by simp; omega) HZ10.out).mono ?_
        rintro e w11 ⟨rfl, hb11⟩
        have B12 := B11.trans (hb11.mono B11.size)
        go_wp2_with fail
        go_ret
        exact ⟨rfl, B12⟩
theorem less_big (A : Option Addr) (k c : Nat) (n : Int) (w : World) (hl : 5000 < k) :
    Calls Try.prog 7 #[.slice A k c, .int .u16 n] w fun e w' => e = .returned (.bool true) ∧ Below w.heap.size w w' := by
  go_enter Try.func7, Try.ntmps7
  go_wp2_with fail
  refine (head_any _).mono ?_
  rintro e w1 ⟨rfl, hb1⟩
  go_wp2_with fail
  go_ret
  exact ⟨rfl, hb1⟩
theorem less_none (A : Option Addr) (c : Nat) (n : Int) (w : World) :
    Calls Try.prog 7 #[.slice A 0 c, .int .u16 n] w fun e w' => e = .returned (.bool true) ∧ Below w.heap.size w w' := by
  go_enter Try.func7, Try.ntmps7
  go_wp2_with fail
  refine (head_any _).mono ?_
  rintro e w1 ⟨rfl, hb1⟩
  go_wp2_with fail
  go_ret
  exact ⟨rfl, hb1⟩
set_option maxRecDepth 100000 in
theorem less_lifted (os : Os) (started : os.Started) (H : Type) (enc : TypeId × Value → H) :
    ReturnsInHanded {} Try.checked os 7 .any (Rows.voteLessSpec.pre6 enc Try.prog Try.f7 Rows.voteLessRow.domain false) (Rows.voteLessSpec.post enc Try.prog Try.f7 false true false false) := by
  refine LawFrame.handed (C := Try.checked) (tb := 4) (by kernel_rfl) (by kernel_rfl) (by kernel_rfl) Try.underlying4 rfl (fun ds hd => ?_) own started (by kernel_rfl) Try.func7
    (ChangeSpec.witness6 (enc := enc) (C := Try.checked) false ⟨#[], #[.slice none 0 0, .int .u16 0], []⟩ 8 (by kernel_rfl) (by kernel_rfl) (by kernel_rfl) (by kernel_rfl)) ?_
  · rw [Try.params7] at hd
    match ds, hd with
    | [d1, d2], _ => rfl
  · intro W args ds before base hval hA hlt hsz
    rw [Try.params7] at hval hA
    obtain ⟨v0, v1, d0, d1, p0, p1, rfl, rfl, rfl, h0, h1⟩ := trodAll_two hA
    obtain ⟨x, rfl, rfl, rfl, wx⟩ := open_int Try.underlying27 (hval 1 27 v1 rfl rfl) h1
    obtain ⟨l, hl, _⟩ := open_inn (hval 0 22 v0 rfl rfl) h0
    obtain ⟨hx0, hx1⟩ := bounds_u16 wx
    obtain ⟨n, rfl⟩ := Int.eq_ofNat_of_zero_le hx0
    rcases Nat.lt_or_ge 5000 l.length with h5 | h5
    · obtain ⟨A, c, rfl, hc, -⟩ := hl
      exact less_big A _ c _ W h5
    · rcases Nat.eq_zero_or_pos l.length with hz | hz
      · obtain ⟨A, c, rfl, hc, -⟩ := hl
        rw [hz]
        exact less_none A c _ W
      · have hl' := hl
        obtain ⟨A, c, rfl, hc, hm⟩ := hl
        obtain ⟨b, off, rfl, _⟩ := hm (List.length_pos_iff.1 hz)
        exact less_walk l b off c n W (by omega) hz h5 hl'
theorem less_holds : Rows.VoteLessSaid :=
  OpenClaim.holds_of_wide 7 Try.f7 rfl rfl rfl rfl rfl rfl rfl ⟨rfl, rfl, rfl, rfl, rfl⟩ rfl rfl rfl rfl rfl (by kernel_rfl) Try.func7 (by kernel_rfl)
    (of_decide_eq_true (by kernel_rfl)) (by unfold Func.isWrapper; first | (rw [if_pos (by decide +kernel)]; kernel_rfl) | (rw [if_neg (by decide +kernel)]; exact ⟨rfl, rfl⟩))
    (fun os started H enc _ => less_lifted os started H enc)
#print axioms less_holds
end Go.Proofs.Ytpgkiilikodbpaa
