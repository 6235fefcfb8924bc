/-
  VoteMore: one more that trips, or is not known, never has it not trip; nor does fewer votes; what is bypassed has no say: it is as if it were not there. For every input, with no condition.
-/
import Derived.Test.YtpgkiilikodbpaaOwn2
import Derived.Test.YtpgkiilikodbpaaOpen
import Derived.Deep.DeepCutAuto
namespace Go.Proofs.Ytpgkiilikodbpaa
open Go.RowKit Go.ChangeShapes Go.WideShapes

/-- what stands of the argument, and of the row of the call's own, behind any statement -/
def Inv (w : World) (B g cap b off c : Nat) (l x : List Inn) (wx : World) : Prop := Below w.heap.size w wx ∧ InnAt wx l (.slice (some ⟨b, off, none⟩) l.length c) ∧ Own wx B g cap x
theorem Inv.below {w wx wy : World} {B g cap b off c : Nat} {l x : List Inn} (h : Inv w B g cap b off c l x wx) (hb : Below wx.heap.size wx wy) : Inv w B g cap b off c l x wy :=
  ⟨h.1.trans (hb.mono h.1.size), h.2.1.below hb, h.2.2.below hb⟩
def turned (bad : Bool) (z : Inn) : Inn := if bad then { z with bad := true } else { z with trip := true }

theorem InnAt.lt_of {w : World} {l : List Inn} {b off c : Nat} (h : InnAt w l (.slice (some ⟨b, off, none⟩) l.length c)) (h0 : 0 < l.length) : b < w.heap.size := by
  obtain ⟨A, c', hv, hcc, h⟩ := h
  injection hv with hA _ _
  obtain ⟨b', off', hA', hlt, _⟩ := h (List.length_pos_iff.1 h0)
  rw [hA'] at hA
  injection hA with hA
  injection hA with e1 e2 _
  rw [e1]; exact hlt
theorem InnAt.below_set {w : World} {l : List Inn} {b off c B g j : Nat} {u : Value} (h : InnAt w l (.slice (some ⟨b, off, none⟩) l.length c)) (hg : B ≤ g) (hb : b < B) : InnAt (w.setCell ⟨g, j, none⟩ u) l (.slice (some ⟨b, off, none⟩) l.length c) := by
  obtain ⟨A, c', hv, hcc, hm⟩ := h
  refine ⟨A, c', hv, hcc, fun hne => ?_⟩
  obtain ⟨b', off', hA', hlt, hcell⟩ := hm hne
  injection hv with hA _ _
  have e1 : b' = b := by rw [hA'] at hA; injection hA with hA; injection hA with e1 _ _; exact e1.symm
  refine ⟨b', off', hA', by simpa [World.setCell] using hlt, fun i x hx => ?_⟩
  have key : ∀ q, (w.setCell ⟨g, j, none⟩ u).cell? ⟨b', q, none⟩ = w.cell? ⟨b', q, none⟩ := fun q => World.cell?_setCell_other w ⟨g, j, none⟩ ⟨b', q, none⟩ u (fun e => by injection e with e _ _; omega)
  rw [key, key, key]
  exact hcell i x hx
theorem Inv.at_ {w wx : World} {B g cap b off c k : Nat} {l x : List Inn} {z : Inn} (h : Inv w B g cap b off c l x wx) (hx : l[k]? = some z) : wx.cell? ⟨b, off + k * 3 + 2, none⟩ = some (.bool z.byp) := by
  obtain ⟨A, c', hv, hcc, hm⟩ := h.2.1
  obtain ⟨b', off', hA', hlt, hcell⟩ := hm (by intro e; subst e; simp at hx)
  injection hv with hA _ _
  rw [hA'] at hA
  injection hA with hA
  injection hA with e1 e2 _
  subst e1 e2
  exact (hcell k z hx).2.2
theorem Inv.inX {w wx : World} {B g cap b off c k : Nat} {l : List Inn} {z : Inn} (h : Inv w B g cap b off c l (l.set k z) wx) : InnAt wx (l.set k z) (.slice (some ⟨g, 0, none⟩) l.length cap) := by
  have := h.2.2.innAt
  rwa [List.length_set] at this
theorem more_yes (bad : Bool) (z : Inn) : (z.byp = true → (turned bad z).yes = z.yes) ∧ (turned bad z).votes = z.votes ∧ (z.yes = true → (turned bad z).yes = true) := by
  rcases z with ⟨t, b, y⟩
  cases bad <;> cases t <;> cases b <;> cases y <;> simp [turned, Inn.yes, Inn.votes]
theorem more_cases (n : Int) (l : List Inn) (k : Nat) (z : Inn) (bad : Bool) (hx : l[k]? = some z) :
    (tripsL n l = true ∧ tripsL n (l.set k (turned bad z)) = true ∧ z.byp = true) ∨ (tripsL n l = true ∧ tripsL n (l.set k (turned bad z)) = true ∧ z.byp = false) ∨
    (tripsL n l = false ∧ tripsL n (l.set k (turned bad z)) = false ∧ z.byp = true) ∨ (tripsL n l = false ∧ tripsL n (l.set k (turned bad z)) = false ∧ z.byp = false) ∨
    (tripsL n l = false ∧ tripsL n (l.set k (turned bad z)) = true ∧ z.byp = false) := by
  have hv := cnt_set_add Inn.votes l k z (turned bad z) hx
  have hy := cnt_set_add Inn.yes l k z (turned bad z) hx
  obtain ⟨m1, m2, m3⟩ := more_yes bad z
  rw [m2] at hv
  have hvv : cnt Inn.votes (l.set k (turned bad z)) = cnt Inn.votes l := by omega
  have hyy : cnt Inn.yes l ≤ cnt Inn.yes (l.set k (turned bad z)) := by
    cases h : z.yes
    · simp only [h] at hy; simp at hy; omega
    · rw [h, m3 h] at hy; omega
  have key : tripsL n l = true → tripsL n (l.set k (turned bad z)) = true := by
    simp only [tripsL, hvv, Bool.and_eq_true, decide_eq_true_eq]
    omega
  cases hb : z.byp
  · cases h1 : tripsL n l <;> cases h2 : tripsL n (l.set k (turned bad z)) <;> simp_all
  · have he : cnt Inn.yes (l.set k (turned bad z)) = cnt Inn.yes l := by rw [m1 hb] at hy; omega
    have : tripsL n (l.set k (turned bad z)) = tripsL n l := by simp only [tripsL, hvv, he]
    rw [this]
    cases h1 : tripsL n l <;> simp
/-- what stands at the law's last statement -/
def Inv15 (w : World) (gy capy : Nat) (y z : List Inn) (len : Nat) (s : Value) (wx : World) : Prop := InnAt wx z s ∧ InnAt wx y (.slice (some ⟨gy, 0, none⟩) len capy) ∧ Below w.heap.size w wx
theorem mk15 {w w7 w8 w9 : World} {gy capy g9 cap9 B len n : Nat} {y z : List Inn} (hz : z.length = n) (hO : Own w9 w7.heap.size g9 cap9 z) (h9 : Below w7.heap.size w8 w9) (h8 : Below w7.heap.size w7 w8) (hy : Own w7 B gy capy y) (hB : Below w.heap.size w w7) (hl : y.length = len := by simp) :
    Inv15 w gy capy y z len (.slice (some ⟨g9, 0, none⟩) n cap9) w9 := by
  subst hz hl
  have hb := h8.trans h9
  exact ⟨hO.innAt, (hy.below hb).innAt, hB.trans (hb.mono hB.size)⟩
theorem flat_end {w : World} {a : Addr} (l : List Inn) (k : Nat) (h : l.length ≤ k + 1) : ∀ j u, ((l.drop (k + 1)).flatMap Inn.cells)[j]? = some u → w.cell? (a.add j) = some u := by
  rw [List.drop_of_length_le h]
  intro j u hu
  simp at hu
theorem fewer_cases (n : Int) (l : List Inn) (h : 1 < n) : (tripsL n l = true ∧ tripsL (n - 1) l = true) ∨ tripsL n l = false := by
  cases ht : tripsL n l
  · exact .inr rfl
  · refine .inl ⟨rfl, ?_⟩
    simp only [tripsL, needL, Bool.and_eq_true, decide_eq_true_eq] at ht ⊢
    refine ⟨ht.1, decide_eq_true ?_⟩
    have h2 := of_decide_eq_true ht.2
    omega
/-- one that is bypassed, and the votes without it -/
theorem without (l : List Inn) (k : Nat) (hk : k < l.length) : (∀ p : Inn → Bool, p ⟨false, false, true⟩ = false → cnt p (l.set k ⟨false, false, true⟩) = cnt p (l.take k ++ l.drop (k + 1))) := by
  intro p hp
  have e : l.set k ⟨false, false, true⟩ = l.take k ++ ⟨false, false, true⟩ :: l.drop (k + 1) := by
    rw [List.set_eq_take_append_cons_drop, if_pos hk]
  rw [e, cnt_append, cnt_append]
  simp [cnt, hp]
set_option maxRecDepth 100000 in
set_option maxHeartbeats 800000 in
theorem more_walk (n : Int) (hn0 : -9223372036854775808 ≤ n) (hn9 : n ≤ 9223372036854775807) (l : List Inn) (b off c : Nat) (at_ : Nat) (bad : Bool) (w : World) (hat : at_ < 65536) (h0 : 0 < l.length) (hl : l.length ≤ 5000) (h : InnAt w l (.slice (some ⟨b, off, none⟩) l.length c)) :
    Calls Try.prog 4 #[.int .i64 n, .slice (some ⟨b, off, none⟩) l.length c, .int .u16 at_, .bool bad] w fun e w' => e = .returned (.bool true) ∧ Below w.heap.size w w' := by
  have hcc : l.length ≤ c := by obtain ⟨A, c', hv, hc, _⟩ := h; injection hv with _ _ e; omega
  have H := Lib.hid h
  clear h
  have hne : ((l.length : Int) == 0) = false := beq_eq_false_iff_ne.2 (by omega)
  obtain ⟨k, hk, hmod⟩ : ∃ k, k < l.length ∧ (at_ : Int) % (l.length : Int) = (k : Int) := ⟨at_ % l.length, Nat.mod_lt _ h0, by simp⟩
  go_enter Try.func4, Try.ntmps4
  go_wp2_with fail
  refine (head_any _).mono ?_
  rintro e w1 ⟨rfl, hb1⟩
  have HI1 := Lib.hid (H.out.below hb1)
  go_wp2_with (at_builtin; refine wpList_append_inn rfl (.tmp 29) (.tmp 30) rfl rfl b off c l rfl HI1.out h0 hl ?_)
  intro g cap w2 hO hb2
  have hx : l[k]? = some l[k] := List.getElem?_eq_getElem hk
  obtain ⟨x0, x1, x2⟩ := hO.cells hx
  have f0 := hO.frozen (k * 3)
  have f1 := hO.frozen (k * 3 + 1)
  have f2 := hO.frozen (k * 3 + 2)
  have HO := Lib.hid hO
  have HX := Lib.hid hx
  clear hO hx
  generalize l[k] = z at *
  have hI2 : Inv w w1.heap.size g cap b off c l l w2 := ⟨hb1.trans (hb2.mono hb1.size), HI1.out.below hb2, HO.out⟩
  have HI2 := Lib.hid hI2
  clear hI2 hb2
  go_upto_if 32 with fail
  go_cut [] (fun wx => Inv w w1.heap.size g cap b off c l (l.set k (turned bad z)) wx)
  case first =>
    cases bad
    · go_wp2_with fail
      go_meet
      refine ⟨HI2.out.1.setCell (Nat.le_trans hb1.size HI2.out.2.2.lt.1) _, HI2.out.2.1.below_set HI2.out.2.2.lt.1 (Nat.le_trans (HI1.out.lt_of h0) (Nat.le_refl _)), HI2.out.2.2.set (d := 0) (by omega) HX.out rfl⟩
    · go_wp2_with fail
      go_meet
      refine ⟨HI2.out.1.setCell (Nat.le_trans hb1.size HI2.out.2.2.lt.1) _, HI2.out.2.1.below_set HI2.out.2.2.lt.1 (Nat.le_trans (HI1.out.lt_of h0) (Nat.le_refl _)), HI2.out.2.2.set (d := 1) (by omega) HX.out rfl⟩
  case rest =>
    have HI3 := Lib.hid hcut
    have hX5 : (l.set k (turned bad z)).length ≤ 5000 := by simp; exact hl
    have HM := Lib.hid (more_cases n l k z bad HX.out)
    clear hcut HI2 x0 x1 x2 f0 f1 f2 HO HI1 H
    go_upto_region 9 with fail
    go_cut [65] (fun s65 wx => s65 = .bool false ∧ Inv w w1.heap.size g cap b off c l (l.set k (turned bad z)) wx)
    case first =>
      have hc3 := HI3.out.at_ HX.out
      rcases more_cases n l k z bad HX.out with ⟨ht, hu, hz⟩ | ⟨ht, hu, hz⟩ | ⟨ht, hu, hz⟩ | ⟨ht, hu, hz⟩ | ⟨ht, hu, hz⟩
      · have HT := Lib.hid ht
        have HU := Lib.hid hu
        clear ht hu
        go_wp2_with fail
        refine (Trips_is true n l HT.out _ _ hl HI3.out.2.1).mono ?_
        rintro e w11 ⟨rfl, hb11⟩
        have HI11 := Lib.hid (HI3.out.below hb11)
        have hc11 := HI11.out.at_ HX.out
        clear hb11 HI3 hc3
        go_wp2_with fail
        refine (Trips_is true n _ HU.out _ _ hX5 HI11.out.inX).mono ?_
        rintro e w12 ⟨rfl, hb12⟩
        have HI12 := Lib.hid (HI11.out.below hb12)
        have hc12 := HI12.out.at_ HX.out
        clear hb12 HI11 hc11
        go_wp2_with fail
        refine (Trips_is true n l HT.out _ _ hl HI12.out.2.1).mono ?_
        rintro e w13 ⟨rfl, hb13⟩
        have HI13 := Lib.hid (HI12.out.below hb13)
        have hc13 := HI13.out.at_ HX.out
        clear hb13 HI12 hc12
        go_wp2_with fail
        refine (Trips_is true n _ HU.out _ _ hX5 HI13.out.inX).mono ?_
        rintro e w14 ⟨rfl, hb14⟩
        have HI14 := Lib.hid (HI13.out.below hb14)
        have hc14 := HI14.out.at_ HX.out
        clear hb14 HI13 hc13
        go_wp2_with fail
        go_meet
        exact ⟨rfl, HI14.out⟩
      · have HT := Lib.hid ht
        have HU := Lib.hid hu
        clear ht hu
        go_wp2_with fail
        refine (Trips_is true n l HT.out _ _ hl HI3.out.2.1).mono ?_
        rintro e w11 ⟨rfl, hb11⟩
        have HI11 := Lib.hid (HI3.out.below hb11)
        have hc11 := HI11.out.at_ HX.out
        clear hb11 HI3 hc3
        go_wp2_with fail
        refine (Trips_is true n _ HU.out _ _ hX5 HI11.out.inX).mono ?_
        rintro e w12 ⟨rfl, hb12⟩
        have HI12 := Lib.hid (HI11.out.below hb12)
        have hc12 := HI12.out.at_ HX.out
        clear hb12 HI11 hc11
        go_wp2_with fail
        go_meet
        exact ⟨rfl, HI12.out⟩
      · have HT := Lib.hid ht
        have HU := Lib.hid hu
        clear ht hu
        go_wp2_with fail
        refine (Trips_is false n l HT.out _ _ hl HI3.out.2.1).mono ?_
        rintro e w11 ⟨rfl, hb11⟩
        have HI11 := Lib.hid (HI3.out.below hb11)
        have hc11 := HI11.out.at_ HX.out
        clear hb11 HI3 hc3
        go_wp2_with fail
        refine (Trips_is false n l HT.out _ _ hl HI11.out.2.1).mono ?_
        rintro e w12 ⟨rfl, hb12⟩
        have HI12 := Lib.hid (HI11.out.below hb12)
        have hc12 := HI12.out.at_ HX.out
        clear hb12 HI11 hc11
        go_wp2_with fail
        refine (Trips_is false n _ HU.out _ _ hX5 HI12.out.inX).mono ?_
        rintro e w13 ⟨rfl, hb13⟩
        have HI13 := Lib.hid (HI12.out.below hb13)
        have hc13 := HI13.out.at_ HX.out
        clear hb13 HI12 hc12
        go_wp2_with fail
        go_meet
        exact ⟨rfl, HI13.out⟩
      · have HT := Lib.hid ht
        have HU := Lib.hid hu
        clear ht hu
        go_wp2_with fail
        refine (Trips_is false n l HT.out _ _ hl HI3.out.2.1).mono ?_
        rintro e w11 ⟨rfl, hb11⟩
        have HI11 := Lib.hid (HI3.out.below hb11)
        have hc11 := HI11.out.at_ HX.out
        clear hb11 HI3 hc3
        go_wp2_with fail
        go_meet
        exact ⟨rfl, HI11.out⟩
      · have HT := Lib.hid ht
        have HU := Lib.hid hu
        clear ht hu
        go_wp2_with fail
        refine (Trips_is false n l HT.out _ _ hl HI3.out.2.1).mono ?_
        rintro e w11 ⟨rfl, hb11⟩
        have HI11 := Lib.hid (HI3.out.below hb11)
        have hc11 := HI11.out.at_ HX.out
        clear hb11 HI3 hc3
        go_wp2_with fail
        go_meet
        exact ⟨rfl, HI11.out⟩
    case rest =>
      obtain ⟨rfl, hI4⟩ := hcut
      have HI4 := Lib.hid hI4
      clear hI4
      go_upto_region 11 with fail
      go_cut [79] (fun s79 wx => s79 = .bool false ∧ Inv w w1.heap.size g cap b off c l (l.set k (turned bad z)) wx)
      case first =>
        by_cases hn1 : 1 < n
        · rcases fewer_cases n l hn1 with ⟨ht, hu⟩ | ht
          · have HT := Lib.hid ht
            have HU := Lib.hid hu
            clear ht hu
            go_wp2_with fail
            refine (Trips_is true n l HT.out _ _ hl HI4.out.2.1).mono ?_
            rintro e w11 ⟨rfl, hb11⟩
            have HI11 := Lib.hid (HI4.out.below hb11)
            go_wp2_with fail
            refine (Trips_is true (n - 1) l HU.out _ _ hl HI11.out.2.1).mono ?_
            rintro e w12 ⟨rfl, hb12⟩
            have HI12 := Lib.hid (HI11.out.below hb12)
            go_wp2_with fail
            go_meet
            exact ⟨rfl, HI12.out⟩
          · have HT := Lib.hid ht
            clear ht
            go_wp2_with fail
            refine (Trips_is false n l HT.out _ _ hl HI4.out.2.1).mono ?_
            rintro e w11 ⟨rfl, hb11⟩
            have HI11 := Lib.hid (HI4.out.below hb11)
            go_wp2_with fail
            go_meet
            exact ⟨rfl, HI11.out⟩
        · go_wp2_with fail
          go_meet
          exact ⟨rfl, HI4.out⟩
      case rest =>
        obtain ⟨rfl, hI5⟩ := hcut
        have HI5 := Lib.hid hI5
        clear hI5 HI4
        go_wp2_with (at_builtin; refine wpList_append_inn rfl (.tmp 80) (.tmp 81) rfl rfl b off c l rfl HI5.out.2.1 h0 hl ?_)
        intro gy capy w6 hOy hb6
        obtain ⟨y0, y1, y2⟩ := hOy.cells HX.out
        have f0 := hOy.frozen (k * 3)
        have f1 := hOy.frozen (k * 3 + 1)
        have f2 := hOy.frozen (k * 3 + 2)
        have hY6 := hOy.set3 hk false false true
        have hgy := hOy.lt.1
        have hbw := HI5.out.2.1.lt_of h0
        have B6 : Below w.heap.size w w6 := HI5.out.1.trans (hb6.mono HI5.out.1.size)
        have hgw : w.heap.size ≤ gy := Nat.le_trans HI5.out.1.size hgy
        have B7 : Below w.heap.size w (((w6.setCell ⟨gy, k * 3, none⟩ (.bool false)).setCell ⟨gy, k * 3 + 1, none⟩ (.bool false)).setCell ⟨gy, k * 3 + 2, none⟩ (.bool true)) := ((B6.setCell hgw _).setCell hgw _).setCell hgw _
        have hL7 := (((HI5.out.2.1.below hb6).below_set (j := k * 3) (u := .bool false) hgy hbw).below_set (j := k * 3 + 1) (u := .bool false) hgy hbw).below_set (j := k * 3 + 2) (u := .bool true) hgy hbw
        have HL7 := Lib.hid hL7
        have HY7 := Lib.hid hY6
        clear hL7 hY6 hb6 hOy hbw B6
        go_upto_region 15 with fail
        clear y0 y1 y2 f0 f1 f2
        generalize (((w6.setCell ⟨gy, k * 3, none⟩ (.bool false)).setCell ⟨gy, k * 3 + 1, none⟩ (.bool false)).setCell ⟨gy, k * 3 + 2, none⟩ (.bool true)) = w7 at *
        have hkle : k ≤ l.length := by omega
        have hkc : k ≤ c := by omega
        have hk1 : k + 1 ≤ l.length := by omega
        have hk1c : k + 1 ≤ c := by omega
        have hlc : l.length - (k + 1) = (l.drop (k + 1)).length := by simp
        have HLC := Lib.hid hlc
        have HY8 := Lib.hid (show (l.take k).length = k by simp; omega)
        have HN1 := Lib.hid (show ([] : List Inn).length + (l.take k).length ≤ 10000 by simp; omega)
        have HN2 := Lib.hid (show (l.take k).length + (l.drop (k + 1)).length ≤ 10000 by simp; omega)
        have HLEN := Lib.hid (show (l.take k ++ l.drop (k + 1)).length = k + (l.length - (k + 1)) by simp; omega)
        clear hlc
        have HHB := Lib.hid (Nat.le_refl w7.heap.size)
        go_cut [13] (fun s13 wx => Inv15 w gy capy (l.set k ⟨false, false, true⟩) (l.take k ++ l.drop (k + 1)) l.length s13 wx)
        case first =>
          have hw0 : IntKind.i64.wrap ((k : Int) + 1) = (k : Int) + 1 := IntWalk.i64_in _ (by omega)
          have hw1 : (0 : Int) ≤ (k : Int) + 1 := by omega
          have hw2 : (k : Int) + 1 ≤ l.length := by omega
          have hw3 : ((k : Int) + 1).toNat = k + 1 := by omega
          by_cases hck : c = k + 1
          · have HCK := Lib.hid hck
            have hct : (c = k + 1) = True := eq_true hck
            have hkk : (k : Int) ≤ (k : Int) + 1 := by omega
            clear hck
            go_region_law (first
              | (refine step_append_votes rfl (.tmp 87) (.tmp 90) rfl _ _ 0 [] 0 rfl rfl (Own.made _) ⟨b, off, none⟩ _ _ (l.take k) rfl HY8.out.symm (HL7.out.alloc _).flat_to HN1.out (by simp) ?_; intro g8 cap8 w8 hO8 hb8; have hb8 : Below w7.heap.size w7 w8 := (((Below.refl _ _).alloc (Nat.le_refl _) _).drew).trans hb8)
              | (refine step_append_votes rfl (.tmp 91) (.tmp 95) rfl _ _ _ (l.take k) _ rfl (by rw [HY8.out]) hO8 ⟨b, off, none⟩ _ _ (l.drop (k + 1)) rfl HLC.out (flat_end l k (by have := HCK.out; omega)) HN2.out hb8.size ?_; intro g9 cap9 w9 hO9 hb9))
            clear hw0 hw1 hw2 hw3 hct
            go_wp2_with fail
            go_meet
            exact mk15 HLEN.out hO9 hb9 hb8 HY7.out B7
          · go_region_law (first
              | (refine step_append_votes rfl (.tmp 87) (.tmp 90) rfl _ _ 0 [] 0 rfl rfl (Own.made _) ⟨b, off, none⟩ _ _ (l.take k) rfl HY8.out.symm (HL7.out.alloc _).flat_to HN1.out (by simp) ?_; intro g8 cap8 w8 hO8 hb8; have hb8 : Below w7.heap.size w7 w8 := (((Below.refl _ _).alloc (Nat.le_refl _) _).drew).trans hb8)
              | (refine step_append_votes rfl (.tmp 91) (.tmp 95) rfl _ _ _ (l.take k) _ rfl (by rw [HY8.out]) hO8 ⟨b, off + (k + 1) * 3, none⟩ _ _ (l.drop (k + 1)) rfl HLC.out (HL7.out.below hb8).flat_from HN2.out hb8.size ?_; intro g9 cap9 w9 hO9 hb9))
            clear hw0 hw1 hw2 hw3
            go_wp2_with fail
            go_meet
            exact mk15 HLEN.out hO9 hb9 hb8 HY7.out B7
        case rest =>
          obtain ⟨hz, hy, B9⟩ := hcut
          have hy5 : (l.set k ⟨false, false, true⟩).length ≤ 5000 := by simp; exact hl
          have hz5 : (l.take k ++ l.drop (k + 1)).length ≤ 5000 := by rw [HLEN.out]; omega
          have HZ9 := Lib.hid hz
          have HY9 := Lib.hid hy
          have HV := Lib.hid (without l k hk Inn.votes rfl)
          have HW := Lib.hid (without l k hk Inn.yes rfl)
          have HT := Lib.hid (show tripsL n (l.set k ⟨false, false, true⟩) = tripsL n (l.take k ++ l.drop (k + 1)) by unfold tripsL; rw [HV.out, HW.out])
          have HS := Lib.hid (congrArg Int.ofNat HW.out)
          have HN := Lib.hid (show needL n (cnt Inn.votes (l.set k ⟨false, false, true⟩)) = needL n (cnt Inn.votes (l.take k ++ l.drop (k + 1))) by rw [HV.out])
          have HH := Lib.hid (show healthyL n (l.set k ⟨false, false, true⟩) = false by
            have h1 := cnt_le Inn.votes (l.take k ++ l.drop (k + 1))
            have h2 := HLEN.out
            unfold healthyL
            rw [HV.out, List.length_set]
            have : (cnt Inn.votes (l.take k ++ l.drop (k + 1)) == l.length) = false := by simp; omega
            rw [this]; rfl)
          have hyv := HY9.out
          generalize l.set k ⟨false, false, true⟩ = y at *
          obtain ⟨Az, cz, rfl, hcz, -⟩ := hz
          generalize l.take k ++ l.drop (k + 1) = z' at *
          clear hy hyv hcz
          go_wp2_with fail
          refine (Trips_is _ n y HT.out _ _ hy5 HY9.out).mono ?_
          rintro e w10 ⟨rfl, hb10⟩
          have HY10 := Lib.hid (HY9.out.below hb10)
          have HZ10 := Lib.hid (HZ9.out.below hb10)
          have B10 := B9.trans (hb10.mono B9.size)
          clear hb10 HY9 HZ9 B9
          go_wp2_with fail
          refine (Trips_any n z' _ _ hz5 HZ10.out).mono ?_
          rintro e w11 ⟨rfl, hb11⟩
          have HY11 := Lib.hid (HY10.out.below hb11)
          have HZ11 := Lib.hid (HZ10.out.below hb11)
          have B11 := B10.trans (hb11.mono B10.size)
          clear hb11 HY10 HZ10 B10
          go_wp2_with fail
          refine (Yes_is _ y HS.out _ _ hy5 HY11.out).mono ?_
          rintro e w12 ⟨rfl, hb12⟩
          have HY12 := Lib.hid (HY11.out.below hb12)
          have HZ12 := Lib.hid (HZ11.out.below hb12)
          have B12 := B11.trans (hb12.mono B11.size)
          clear hb12 HY11 HZ11 B11
          go_wp2_with fail
          refine (Yes_any z' _ _ hz5 HZ12.out).mono ?_
          rintro e w13 ⟨rfl, hb13⟩
          have HY13 := Lib.hid (HY12.out.below hb13)
          have HZ13 := Lib.hid (HZ12.out.below hb13)
          have B13 := B12.trans (hb13.mono B12.size)
          clear hb13 HY12 HZ12 B12
          go_wp2_with fail
          refine (Need_is _ n y HN.out _ _ hy5 HY13.out).mono ?_
          rintro e w14 ⟨rfl, hb14⟩
          have HY14 := Lib.hid (HY13.out.below hb14)
          have HZ14 := Lib.hid (HZ13.out.below hb14)
          have B14 := B13.trans (hb14.mono B13.size)
          clear hb14 HY13 HZ13 B13
          go_wp2_with fail
          refine (Need_any n z' _ _ hz5 HZ14.out).mono ?_
          rintro e w15 ⟨rfl, hb15⟩
          have HY15 := Lib.hid (HY14.out.below hb15)
          have B15 := B14.trans (hb15.mono B14.size)
          clear hb15 HY14 HZ14 B14
          go_wp2_with fail
          refine (Healthy_is _ n y HH.out _ _ hy5 HY15.out).mono ?_
          rintro e w16 ⟨rfl, hb16⟩
          have B16 := B15.trans (hb16.mono B15.size)
          go_wp2_with fail
          go_ret
          exact ⟨rfl, B16⟩
set_option maxRecDepth 100000 in
theorem more_big (n : Int) (A : Option Addr) (k : Nat) (c : Nat) (m : Int) (bad : Bool) (w : World) (hl : 5000 < k) :
    Calls Try.prog 4 #[.int .i64 n, .slice A k c, .int .u16 m, .bool bad] w fun e w' => e = .returned (.bool true) ∧ Below w.heap.size w w' := by
  go_enter Try.func4, Try.ntmps4
  go_wp2_with fail
  refine (head_any _).mono ?_
  rintro e w1 ⟨rfl, hb1⟩
  go_wp2_with fail
  go_ret
  exact ⟨rfl, hb1⟩
set_option maxRecDepth 100000 in
theorem more_none (n : Int) (A : Option Addr) (c : Nat) (m : Int) (bad : Bool) (w : World) :
    Calls Try.prog 4 #[.int .i64 n, .slice A 0 c, .int .u16 m, .bool bad] w fun e w' => e = .returned (.bool true) ∧ Below w.heap.size w w' := by
  go_enter Try.func4, Try.ntmps4
  go_wp2_with fail
  refine (head_any _).mono ?_
  rintro e w1 ⟨rfl, hb1⟩
  go_wp2_with fail
  go_ret
  exact ⟨rfl, hb1⟩
set_option maxRecDepth 100000 in
theorem more_lifted (os : Os) (started : os.Started) (H : Type) (enc : TypeId × Value → H) :
    ReturnsInHanded {} Try.checked os 4 .any (Rows.voteMoreSpec.pre6 enc Try.prog Try.f4 Rows.voteMoreRow.domain false) (Rows.voteMoreSpec.post enc Try.prog Try.f4 false true false false) := by
  refine LawFrame.handed (C := Try.checked) (tb := 4) (by kernel_rfl) (by kernel_rfl) (by kernel_rfl) Try.underlying4 rfl (fun ds hd => ?_) own started (by kernel_rfl) Try.func4
    (ChangeSpec.witness6 (enc := enc) (C := Try.checked) false ⟨#[], #[.int .i64 0, .slice none 0 0, .int .u16 0, .bool false], []⟩ 8 (by kernel_rfl) (by kernel_rfl) (by kernel_rfl) (by kernel_rfl)) ?_
  · rw [Try.params4] at hd
    match ds, hd with
    | [d1, d2, d3, d4], _ => rfl
  · intro W args ds before base hval hA hlt hsz
    rw [Try.params4] at hval hA
    obtain ⟨v0, vs0, d0, ds0, p0, q0, hargs, rfl, rfl, h0, r0⟩ := trodAll_cons hA
    obtain ⟨v1, vs1, d1, ds1, p1, q1, rfl, rfl, rfl, h1, r1⟩ := trodAll_cons r0
    obtain ⟨v2, vs2, d2, ds2, p2, q2, rfl, rfl, rfl, h2, r2⟩ := trodAll_cons r1
    obtain ⟨v3, vs3, d3, ds3, p3, q3, rfl, rfl, rfl, h3, r3⟩ := trodAll_cons r2
    obtain ⟨rfl, rfl, rfl⟩ := trodAll_nil r3
    obtain rfl : args = #[v0, v1, v2, v3] := by cases args; simp_all
    obtain ⟨n, rfl, rfl, rfl, wn⟩ := open_int Try.underlying3 (hval 0 3 v0 rfl rfl) h0
    obtain ⟨l, hl, _⟩ := open_inn (hval 1 22 v1 rfl rfl) h1
    obtain ⟨x, rfl, rfl, rfl, wx⟩ := open_int Try.underlying27 (hval 2 27 v2 rfl rfl) h2
    obtain ⟨bad, rfl, rfl, rfl⟩ := open_bool Try.underlying4 (hval 3 4 v3 rfl rfl) h3
    obtain ⟨hx0, hx1⟩ := bounds_u16 wx
    obtain ⟨hn0, hn1⟩ := bounds_i64 wn
    obtain ⟨m, rfl⟩ := Int.eq_ofNat_of_zero_le hx0
    rcases Nat.lt_or_ge 5000 l.length with h5 | h5
    · obtain ⟨A, c, rfl, hc, -⟩ := hl
      exact more_big n A _ c _ bad W h5
    · rcases Nat.eq_zero_or_pos l.length with hz | hz
      · obtain ⟨A, c, rfl, hc, -⟩ := hl
        rw [hz]
        exact more_none n A c _ bad W
      · have hl' := hl
        obtain ⟨A, c, rfl, hc, hm⟩ := hl
        obtain ⟨b, off, rfl, _⟩ := hm (List.length_pos_iff.1 hz)
        exact more_walk n hn0 hn1 l b off c m bad W (by omega) hz h5 hl'
theorem more_holds : Rows.VoteMoreSaid :=
  OpenClaim.holds_of_wide 4 Try.f4 rfl rfl rfl rfl rfl rfl rfl ⟨rfl, rfl, rfl, rfl, rfl⟩ rfl rfl rfl rfl rfl (by kernel_rfl) Try.func4 (by kernel_rfl)
    (of_decide_eq_true (by kernel_rfl)) (by unfold Func.isWrapper; first | (rw [if_pos (by decide +kernel)]; kernel_rfl) | (rw [if_neg (by decide +kernel)]; exact ⟨rfl, rfl⟩))
    (fun os started H enc _ => more_lifted os started H enc)
#print axioms more_holds
end Go.Proofs.Ytpgkiilikodbpaa
