/-
  VoteTurns: in which order they stand changes nothing: the votes, turned by some and swapped in pairs, vote as they did. For every input, with no condition.
-/
import Derived.Test.YtpgkiilikodbpaaOwn2
import Derived.Test.YtpgkiilikodbpaaOpen
namespace Go.Proofs.Ytpgkiilikodbpaa
open Go.RowKit Go.ChangeShapes Go.WideShapes

theorem turns_walk (n : Int) (l : List Inn) (b off c : Nat) (at_ : Nat) (w : World) (hat : at_ < 65536) (h0 : 0 < l.length) (hl : l.length ≤ 5000) (h : InnAt w l (.slice (some ⟨b, off, none⟩) l.length c)) :
    Calls Try.prog 5 #[.int .i64 n, .slice (some ⟨b, off, none⟩) l.length c, .int .u16 at_] w fun e w' => e = .returned (.bool true) ∧ Below w.heap.size w w' := by
  have hcc : l.length ≤ c := by obtain ⟨A, c', hv, hc, _⟩ := h; injection hv with _ _ e; omega
  have H := Lib.hid h
  clear h
  have hne : ((l.length : Int) == 0) = false := beq_eq_false_iff_ne.2 (by omega)
  obtain ⟨k, hk, hmod⟩ : ∃ k, k < l.length ∧ (at_ : Int) % (l.length : Int) = (k : Int) := ⟨at_ % l.length, Nat.mod_lt _ h0, by simp⟩
  have hck : ¬ c = k := by omega
  have hkle : k ≤ l.length := by omega
  have hkc : k ≤ c := by omega
  go_enter Try.func5, Try.ntmps5
  go_wp2_with fail
  refine (head_any _).mono ?_
  rintro e w1 ⟨rfl, hb1⟩
  have HI1 := Lib.hid (H.out.below hb1)
  go_wp2_with fail
  go_region_law (first
    | (refine step_append_votes rfl (.tmp 27) (.tmp 30) rfl _ _ 0 [] 0 rfl rfl (Own.made _) ⟨b, off + k * 3, none⟩ _ _ (l.drop k) rfl (by simp) (HI1.out.alloc _).flat_from (by simp; omega) (by simp) ?_; intro g2 cap2 w2 hO2 hb2; have hb2 : Below w1.heap.size w1 w2 := (((Below.refl _ _).alloc (Nat.le_refl _) _).drew).trans hb2)
    | (refine step_append_votes rfl (.tmp 31) (.tmp 34) rfl _ _ _ (l.drop k) _ rfl (by simp) hO2 ⟨b, off, none⟩ _ _ (l.take k) rfl (by simp; omega) (HI1.out.below hb2).flat_to (by simp; omega) hb2.size ?_; intro g3 cap3 w3 hO3 hb3))
  have hb3 : Below w1.heap.size w1 w3 := hb2.trans hb3
  have B3 : Below w.heap.size w w3 := hb1.trans (hb3.mono hb1.size)
  have HI3 := Lib.hid (HI1.out.below hb3)
  have hlen3 : (l.drop k ++ l.take k).length = l.length := by simp; omega
  have hx3 : PermB (l.drop k ++ l.take k) l := PermB.turn l k
  have e3 : l.length - k + k = l.length := by omega
  obtain ⟨x, hx⟩ : ∃ x, x = l.drop k ++ l.take k := ⟨_, rfl⟩
  rw [← hx] at hO3 hlen3 hx3
  have HO3 := Lib.hid hO3
  have HX3 := Lib.hid hx3
  have HL3 := Lib.hid hlen3
  clear hO3 hx3 hlen3 hO2 hb2 hb3 e3 hx hck hkle hkc hmod HI1
  go_wp2_with fail
  go_loopw [10] (fun i wr => ∃ (j : Nat) (y : List Inn), j ≤ l.length + 1 ∧ i = .int .i64 j ∧ y.length = l.length ∧ PermB y l ∧ Own wr w1.heap.size g3 cap3 y ∧ Below w.heap.size w wr) (fun i _ => l.length + 2 - (intOf i).toNat)
  case atStart => exact ⟨0, x, Nat.zero_le _, rfl, HL3.out, HX3.out, HO3.out, B3⟩
  case round =>
    obtain ⟨j, y, hj, rfl, hyl, hp, hO, hB⟩ := hrel
    have HYL := Lib.hid hyl
    have HP := Lib.hid hp
    have HOY := Lib.hid hO
    clear hp hO hyl
    by_cases hlt : j + 1 < l.length
    · have hy0 : y[j]? = some (y[j]'(by rw [HYL.out]; omega)) := List.getElem?_eq_getElem _
      have hy1 : y[j + 1]? = some (y[j + 1]'(by rw [HYL.out]; omega)) := List.getElem?_eq_getElem _
      obtain ⟨c0, c1, c2⟩ := HOY.out.cells hy0
      obtain ⟨d0, d1, d2⟩ := HOY.out.cells hy1
      have f0 := HOY.out.frozen (j * 3)
      have f1 := HOY.out.frozen (j * 3 + 1)
      have f2 := HOY.out.frozen (j * 3 + 2)
      have f3 := HOY.out.frozen ((j + 1) * 3)
      have f4 := HOY.out.frozen ((j + 1) * 3 + 1)
      have f5 := HOY.out.frozen ((j + 1) * 3 + 2)
      have hg : g3 < wr.heap.size := HOY.out.lt.2
      have n1 : ¬ g3 = wr.heap.size := by omega
      have n2 : ¬ wr.heap.size = g3 := by omega
      have HY0 := Lib.hid hy0
      have HY1 := Lib.hid hy1
      clear hy0 hy1
      generalize y[j]'(by rw [HYL.out]; omega) = p0 at *
      generalize y[j + 1]'(by rw [HYL.out]; omega) = p1 at *
      go_wp2_with fail
      go_roundw
      case rel =>
        have hj0 : j < y.length := by rw [HYL.out]; omega
        have hj1 : j + 1 < (y.set j p1).length := by rw [List.length_set, HYL.out]; exact hlt
        refine ⟨j + 2, (y.set j p1).set (j + 1) p0, by omega, by go_num, by simp [HYL.out], HP.out.swap HY0.out HY1.out, ?_, ?_⟩
        · exact (((HOY.out.set3 hj0 p1.trip p1.bad p1.byp).set3 hj1 p0.trip p0.bad p0.byp).alloc _)
        · have hbg : w.heap.size ≤ g3 := Nat.le_trans hb1.size HOY.out.lt.1
          exact ((((((hB.setCell hbg _).setCell hbg _).setCell hbg _).setCell hbg _).setCell hbg _).setCell hbg _).alloc (by simpa using hB.size) _
      case measure => simp [intOf]; omega
    · have hy := HOY.out.innAt
      rw [HYL.out] at hy
      have HY := Lib.hid hy
      have HL := Lib.hid (H.out.below hB)
      have HT := Lib.hid (HP.out.trips n)
      have HS := Lib.hid (congrArg Int.ofNat (HP.out.2 Inn.yes))
      have HN := Lib.hid (show needL n (cnt Inn.votes y) = needL n (cnt Inn.votes l) by rw [HP.out.2])
      have HH := Lib.hid (HP.out.healthy n)
      have hy5 : y.length ≤ 5000 := by rw [HYL.out]; exact hl
      clear hy HOY HO3 HX3 HL3 HI3
      go_wp2_with fail
      refine (Trips_is _ n y HT.out _ _ hy5 HY.out).mono ?_
      rintro e w5 ⟨rfl, hb5⟩
      have HY5 := Lib.hid (HY.out.below hb5)
      have HL5 := Lib.hid (HL.out.below hb5)
      have B5 := hB.trans (hb5.mono hB.size)
      clear hb5 hB HY HL
      go_wp2_with fail
      refine (Trips_any n l _ _ hl HL5.out).mono ?_
      rintro e w6 ⟨rfl, hb6⟩
      have HY6 := Lib.hid (HY5.out.below hb6)
      have HL6 := Lib.hid (HL5.out.below hb6)
      have B6 := B5.trans (hb6.mono B5.size)
      clear hb6 B5 HY5 HL5
      go_wp2_with fail
      refine (Yes_is _ y HS.out _ _ hy5 HY6.out).mono ?_
      rintro e w7 ⟨rfl, hb7⟩
      have HY7 := Lib.hid (HY6.out.below hb7)
      have HL7 := Lib.hid (HL6.out.below hb7)
      have B7 := B6.trans (hb7.mono B6.size)
      clear hb7 B6 HY6 HL6
      go_wp2_with fail
      refine (Yes_any l _ _ hl HL7.out).mono ?_
      rintro e w8 ⟨rfl, hb8⟩
      have HY8 := Lib.hid (HY7.out.below hb8)
      have HL8 := Lib.hid (HL7.out.below hb8)
      have B8 := B7.trans (hb8.mono B7.size)
      clear hb8 B7 HY7 HL7
      go_wp2_with fail
      refine (Need_is _ n y HN.out _ _ hy5 HY8.out).mono ?_
      rintro e w9 ⟨rfl, hb9⟩
      have HY9 := Lib.hid (HY8.out.below hb9)
      have HL9 := Lib.hid (HL8.out.below hb9)
      have B9 := B8.trans (hb9.mono B8.size)
      clear hb9 B8 HY8 HL8
      go_wp2_with fail
      refine (Need_any n l _ _ hl HL9.out).mono ?_
      rintro e w10 ⟨rfl, hb10⟩
      have HY10 := Lib.hid (HY9.out.below hb10)
      have HL10 := Lib.hid (HL9.out.below hb10)
      have B10 := B9.trans (hb10.mono B9.size)
      clear hb10 B9 HY9 HL9
      go_wp2_with fail
      refine (Healthy_is _ n y HH.out _ _ hy5 HY10.out).mono ?_
      rintro e w11 ⟨rfl, hb11⟩
      have HL11 := Lib.hid (HL10.out.below hb11)
      have B11 := B10.trans (hb11.mono B10.size)
      clear hb11 B10 HY10 HL10
      go_wp2_with fail
      refine (Healthy_any n l _ _ hl HL11.out).mono ?_
      rintro e w12 ⟨rfl, hb12⟩
      have B12 := B11.trans (hb12.mono B11.size)
      go_wp2_with fail
      go_ret
      exact ⟨rfl, B12⟩
theorem turns_big (n : Int) (A : Option Addr) (k : Nat) (c : Nat) (m : Int) (w : World) (hl : 5000 < k) :
    Calls Try.prog 5 #[.int .i64 n, .slice A k c, .int .u16 m] w fun e w' => e = .returned (.bool true) ∧ Below w.heap.size w w' := by
  go_enter Try.func5, Try.ntmps5
  go_wp2_with fail
  refine (head_any _).mono ?_
  rintro e w1 ⟨rfl, hb1⟩
  go_wp2_with fail
  go_ret
  exact ⟨rfl, hb1⟩
theorem turns_none (n : Int) (A : Option Addr) (c : Nat) (m : Int) (w : World) :
    Calls Try.prog 5 #[.int .i64 n, .slice A 0 c, .int .u16 m] w fun e w' => e = .returned (.bool true) ∧ Below w.heap.size w w' := by
  go_enter Try.func5, Try.ntmps5
  go_wp2_with fail
  refine (head_any _).mono ?_
  rintro e w1 ⟨rfl, hb1⟩
  go_wp2_with fail
  go_ret
  exact ⟨rfl, hb1⟩
set_option maxRecDepth 100000 in
theorem turns_lifted (os : Os) (started : os.Started) (H : Type) (enc : TypeId × Value → H) :
    ReturnsInHanded {} Try.checked os 5 .any (Rows.voteTurnsSpec.pre6 enc Try.prog Try.f5 Rows.voteTurnsRow.domain false) (Rows.voteTurnsSpec.post enc Try.prog Try.f5 false true false false) := by
  refine LawFrame.handed (C := Try.checked) (tb := 4) (by kernel_rfl) (by kernel_rfl) (by kernel_rfl) Try.underlying4 rfl (fun ds hd => ?_) own started (by kernel_rfl) Try.func5
    (ChangeSpec.witness6 (enc := enc) (C := Try.checked) false ⟨#[], #[.int .i64 0, .slice none 0 0, .int .u16 0], []⟩ 8 (by kernel_rfl) (by kernel_rfl) (by kernel_rfl) (by kernel_rfl)) ?_
  · rw [Try.params5] at hd
    match ds, hd with
    | [d1, d2, d3], _ => rfl
  · intro W args ds before base hval hA hlt hsz
    rw [Try.params5] at hval hA
    obtain ⟨v0, vs0, d0, ds0, p0, q0, hargs, rfl, rfl, h0, r0⟩ := trodAll_cons hA
    obtain ⟨v1, vs1, d1, ds1, p1, q1, rfl, rfl, rfl, h1, r1⟩ := trodAll_cons r0
    obtain ⟨v2, vs2, d2, ds2, p2, q2, rfl, rfl, rfl, h2, r2⟩ := trodAll_cons r1
    obtain ⟨rfl, rfl, rfl⟩ := trodAll_nil r2
    obtain rfl : args = #[v0, v1, v2] := by cases args; simp_all
    obtain ⟨n, rfl, rfl, rfl, wn⟩ := open_int Try.underlying3 (hval 0 3 v0 rfl rfl) h0
    obtain ⟨l, hl, _⟩ := open_inn (hval 1 22 v1 rfl rfl) h1
    obtain ⟨x, rfl, rfl, rfl, wx⟩ := open_int Try.underlying27 (hval 2 27 v2 rfl rfl) h2
    obtain ⟨hx0, hx1⟩ := bounds_u16 wx
    obtain ⟨m, rfl⟩ := Int.eq_ofNat_of_zero_le hx0
    rcases Nat.lt_or_ge 5000 l.length with h5 | h5
    · obtain ⟨A, c, rfl, hc, -⟩ := hl
      exact turns_big n A _ c _ W h5
    · rcases Nat.eq_zero_or_pos l.length with hz | hz
      · obtain ⟨A, c, rfl, hc, -⟩ := hl
        rw [hz]
        exact turns_none n A c _ W
      · have hl' := hl
        obtain ⟨A, c, rfl, hc, hm⟩ := hl
        obtain ⟨b, off, rfl, _⟩ := hm (List.length_pos_iff.1 hz)
        exact turns_walk n l b off c m W (by omega) hz h5 hl'
theorem turns_holds : Rows.VoteTurnsSaid :=
  OpenClaim.holds_of_wide 5 Try.f5 rfl rfl rfl rfl rfl rfl rfl ⟨rfl, rfl, rfl, rfl, rfl⟩ rfl rfl rfl rfl rfl (by kernel_rfl) Try.func5 (by kernel_rfl)
    (of_decide_eq_true (by kernel_rfl)) (by unfold Func.isWrapper; first | (rw [if_pos (by decide +kernel)]; kernel_rfl) | (rw [if_neg (by decide +kernel)]; exact ⟨rfl, rfl⟩))
    (fun os started H enc _ => turns_lifted os started H enc)
#print axioms turns_holds
end Go.Proofs.Ytpgkiilikodbpaa
