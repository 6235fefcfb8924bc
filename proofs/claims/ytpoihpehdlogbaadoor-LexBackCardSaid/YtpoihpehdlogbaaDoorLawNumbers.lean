/-
  THE LAW LexNumbers, walked.
-/
import Derived.Test.YtpoihpehdlogbaaDoorLexHead
namespace Go.Proofs.YtpoihpehdlogbaaDoor
open Go.RowKit
/-- what Lines hands back, of any text -/
def LinesAll (l : List UInt8) (w : World) (e : Ending) (w' : World) : Prop := ∃ (xs : List Ln) (A : Option Addr) (c : Nat) (k no : Int), e = .returned (.tuple #[.slice A xs.length c, .int .i64 k, .int .i64 no]) ∧ LsAt w' xs (.slice A xs.length c) ∧ Below w.heap.size w w' ∧
  (textE l = some (k, no) ∧ xs = [] ∨ textE l = none ∧ k = 0 ∧ no = 0 ∧ xs.map Ln.told = toldL (textL l))
theorem ls_nil (w : World) : LsAt w [] (.slice none 0 0) := ⟨LawFrame.RowsAt.nil _ _ _, fun x hx => (by cases hx)⟩
theorem told_len {xs : List Ln} {s : List UInt8} {p : Int × Int} {q r : Prop} (h : textE s = some p ∧ xs = [] ∨ textE s = none ∧ q ∧ r ∧ xs.map Ln.told = toldL (textL s)) : xs.length ≤ s.length + 1 := by
  rcases h with ⟨-, rfl⟩ | ⟨-, -, -, h⟩
  · simp
  · have e : xs.length = (textL s).length := by
      have := congrArg List.length h
      unfold toldL at this
      simpa using this
    have h1 := gather_len (itemsOf s)
    have h2 := (itemsOf_small s).1
    unfold textL at e
    omega
theorem lines_all (w : World) (s : ByteArray) (hs : s.size ≤ 1000000) (ht : Tab w) : Calls Tryd.prog 11 #[.string s] w (LinesAll s.data.toList w) := by
  rcases he : textE s.data.toList with _ | ⟨k, no⟩
  · refine (lines_ok w s hs ht he).mono ?_
    rintro e w' ⟨xs, A, c, rfl, h1, h2, h3⟩
    exact ⟨xs, A, c, 0, 0, rfl, h2, h3, .inr ⟨he, rfl, rfl, h1⟩⟩
  · refine (lines_bad w s hs ht he).mono ?_
    rintro e w' ⟨rfl, h⟩
    exact ⟨[], none, 0, k, no, rfl, ls_nil _, h, .inl ⟨he, rfl⟩⟩
theorem fine_word {l : List UInt8} (h : fineW l) : wordB (toB l) = true := by
  unfold wordB
  rw [toB_size, toB_list]
  have h1 : 1 ≤ l.length := by
    have := List.length_pos_iff.2 h.1
    omega
  rw [decide_eq_true h1, decide_eq_true h.2.1, h.2.2]; rfl
theorem word_fine {s : ByteArray} (h : wordB s = true) : fineW s.data.toList := by
  unfold wordB at h
  simp only [Bool.and_eq_true, decide_eq_true_eq] at h
  obtain ⟨⟨h1, h2⟩, h3⟩ := h
  have hz : s.data.toList.length = s.size := by simp
  refine ⟨fun e => ?_, by rw [hz]; exact h2, h3⟩
  rw [e] at hz
  simp at hz
  omega
/-- what lines that are told are -/
structure LineOk (ends : Nat) (x : Ln) : Prop where
  lo : 1 ≤ x.no
  hi : x.no ≤ (ends : Int) + 1
  some_ : 1 ≤ x.ws.length
  few : x.ws.length ≤ 14
  word : ∀ w ∈ x.ws, wordB w = true
theorem told_get {xs : List Ln} {l : List (Nat × List (List UInt8))} (hx : xs.map Ln.told = toldL l) {k : Nat} {x : Ln} (h : xs[k]? = some x) : ∃ y, l[k]? = some y ∧ x.no = (y.1 : Int) ∧ x.ws = y.2.map toB := by
  have e : (toldL l)[k]? = some x.told := by rw [← hx, List.getElem?_map, h]; rfl
  unfold toldL at e
  rw [List.getElem?_map, Option.map_eq_some_iff] at e
  obtain ⟨y, hy, e⟩ := e
  unfold toldOf Ln.told at e
  simp only [Prod.mk.injEq] at e
  exact ⟨y, hy, e.1.symm, e.2.symm⟩
theorem line_facts {s : List UInt8} {xs : List Ln} (he : textE s = none) (hx : xs.map Ln.told = toldL (textL s)) : (∀ (k : Nat) (x : Ln), xs[k]? = some x → LineOk (ends s) x) ∧ ∀ (k : Nat) (x y : Ln), xs[k]? = some y → xs[k + 1]? = some x → y.no < x.no := by
  constructor
  · intro k x h
    obtain ⟨y, hy, h1, h2⟩ := told_get hx h
    have hm := List.mem_of_getElem? hy
    have hf := textL_fine (textE_none he).2 y hm
    have hn := (textL_numbers s).2 y hm
    refine ⟨by omega, by omega, ?_, ?_, ?_⟩
    · rw [h2, List.length_map]
      have := List.length_pos_iff.2 hf.1
      omega
    · rw [h2, List.length_map]; exact hf.2.1
    · intro w hw
      rw [h2] at hw
      obtain ⟨u, hu, rfl⟩ := List.mem_map.1 hw
      exact fine_word (hf.2.2 u hu)
  · intro k x y h h'
    obtain ⟨a, ha, h1, -⟩ := told_get hx h
    obtain ⟨b, hb, h2, -⟩ := told_get hx h'
    have hp := (textL_numbers s).1
    have hka := (List.getElem?_eq_some_iff.1 ha).1
    have hkb := (List.getElem?_eq_some_iff.1 hb).1
    have := List.pairwise_iff_getElem.1 hp k (k + 1) hka hkb (by omega)
    rw [(List.getElem?_eq_some_iff.1 ha).2, (List.getElem?_eq_some_iff.1 hb).2] at this
    omega
/-- ends up to a place -/
def endsTo (l : List UInt8) (k : Nat) : Nat := ends (l.take k)
theorem ends_next {l : List UInt8} {k : Nat} {c : UInt8} (h : l[k]? = some c) : endsTo l (k + 1) = endsTo l k + (if c = 10 then 1 else 0) := by
  unfold endsTo ends
  rw [List.take_add_one, h, List.count_append]
  by_cases hc : c = 10
  · subst hc; simp
  · rw [if_neg hc]; simp [hc]
theorem ends_all {s : ByteArray} {k : Nat} (h : k = s.size) : endsTo s.data.toList k = ends s.data.toList := by
  unfold endsTo
  rw [List.take_of_length_le (by rw [h]; simp)]
theorem ends_small (l : List UInt8) (k : Nat) : endsTo l k ≤ k := by
  unfold endsTo ends
  have h1 := List.count_le_length (a := (10 : UInt8)) (l := l.take k)
  have h2 := List.length_take_le k l
  omega
set_option maxHeartbeats 4000000 in
set_option maxRecDepth 100000 in
theorem lexNumbers_any (w : World) (s : ByteArray) (hs : s.size ≤ 1125899906842624) (ht : Tab w) :
    Calls Tryd.prog 6 #[.string s] w fun e w' => e = .returned (.bool true) ∧ Below w.heap.size w w' := by
  have HT := Lib.hid ht
  clear ht
  go_enter Tryd.func6, Tryd.ntmps6
  by_cases hbig : (5000 : Int) < (s.size : Int)
  · go_wp2_with (go_at_call 7; refine (head_any w HT.out).mono ?_; rintro e w1 ⟨rfl, h1⟩; have H1 := Lib.hid h1; clear h1)
    go_ret
    exact ⟨rfl, H1.out⟩
  have HSZ := Lib.hid (show s.size ≤ 5000 by omega)
  go_wp2_with (go_at_call 7; refine (head_any w HT.out).mono ?_; rintro e w1 ⟨rfl, h1⟩; have H1 := Lib.hid h1; clear h1)
  refine (lines_all w1 s (by have := HSZ.out; omega) (HT.out.below H1.out (Nat.le_refl _))).mono ?_
  rintro e w2 ⟨xs, A, c, k, no, rfl, hls, hb, hf⟩
  have HL := Lib.hid hls
  have HB := Lib.hid (H1.out.trans (hb.mono H1.out.size))
  have HF := Lib.hid hf
  clear hls hb hf H1
  go_wp2_with fail
  go_loopw [7, 8] (fun n i wr => ∃ j : Nat, j ≤ s.size ∧ i = .int .i64 j ∧ n = .int .i64 (((1 + endsTo s.data.toList j : Nat)) : Int) ∧ Hid (w2 = wr)) (fun _ i _ => s.size - (intOf i).toNat)
  case atStart => exact ⟨0, Nat.zero_le _, rfl, rfl, Lib.hid rfl⟩
  case round =>
    obtain ⟨j, hj, rfl, rfl, HW⟩ := hrel
    have hes := ends_small s.data.toList j
    have hs5 := HSZ.out
    obtain ⟨E, hE⟩ : ∃ E, E = 1 + endsTo s.data.toList j := ⟨_, rfl⟩
    rw [← hE]
    have hE5 : (E : Int) ≤ 5001 := by omega
    have HE := Lib.hid hE
    clear hE hes hs5
    by_cases hlt : j < s.size
    · obtain ⟨b, hc⟩ := string_at hlt
      have hix := fun w => index_at (P := Tryd.prog) (t := 9) (by go_side) hc w
      have HC := Lib.hid hc
      have hj1 : (j : Int) < (s.size : Int) := by omega
      clear hc
      by_cases h10 : b = 10
      · have HN := Lib.hid (show 1 + endsTo s.data.toList (j + 1) = E + 1 by rw [HE.out, ends_next HC.out, if_pos h10]; omega)
        have h33 : (b.toNat : Int) = 10 := by subst h10; rfl
        clear h10
        generalize (b.toNat : Int) = n at *
        subst h33
        go_wp2_with fail
        go_roundw
        case rel => exact ⟨j + 1, by omega, by go_num, by rw [HN.out]; go_num, HW⟩
        case measure => simp [intOf]; omega
      · have HN := Lib.hid (show 1 + endsTo s.data.toList (j + 1) = E by rw [HE.out, ends_next HC.out, if_neg h10]; rfl)
        have h33 : ((b.toNat : Int) == 10) = false := by rw [beq_eq_false_iff_ne]; intro e; exact h10 (UInt8.toNat_inj.1 (by rw [show (10 : UInt8).toNat = 10 from rfl]; omega))
        clear h10
        go_wp2_with fail
        go_roundw
        case rel => exact ⟨j + 1, by omega, by go_num, by rw [HN.out], HW⟩
        case measure => simp [intOf]; omega
    · have hj2 : ¬ (j : Int) < (s.size : Int) := by omega
      have HEE := Lib.hid (show E = 1 + ends s.data.toList by rw [HE.out, ends_all (s := s) (by omega)])
      obtain rfl := HW.out
      clear HE
      have hxs : (k = 0 ∨ xs = []) ∧ (k ≠ 0 ∨ no = 0) ∧ 0 ≤ no ∧ no ≤ (E : Int) := by
        rcases HF.out with ⟨h1, h2⟩ | ⟨h1, h2, h3, h4⟩
        · obtain ⟨ha, hb, hc⟩ := textE_some h1
          have := HEE.out
          exact ⟨.inr h2, .inl (by omega), hb, by omega⟩
        · exact ⟨.inl h2, .inr h3, by omega, by omega⟩
      obtain ⟨hk, hno, hn0, hn1⟩ := hxs
      have HK := Lib.hid hk
      have HNO := Lib.hid hno
      have HN0 := Lib.hid hn0
      have HN1 := Lib.hid hn1
      clear hk hno hn0 hn1
      have HLF : Hid ((∀ (k : Nat) (x : Ln), xs[k]? = some x → LineOk (ends s.data.toList) x) ∧ ∀ (k : Nat) (x y : Ln), xs[k]? = some y → xs[k + 1]? = some x → y.no < x.no) := Lib.hid (by
        rcases HF.out with ⟨h1, h2⟩ | ⟨h1, h2, h3, h4⟩
        · subst h2
          exact ⟨fun k x h => by simp at h, fun k x y h => by simp at h⟩
        · exact line_facts h1 h4)
      have hlen : xs.length ≤ 6000 := by
        have h1 := told_len HF.out
        have h2 := HSZ.out
        have h3 : s.data.toList.length = s.size := by simp
        omega
      go_wp2_with fail
      go_loopw [9] (fun i wr => ∃ j : Nat, j ≤ xs.length ∧ i = .int .i64 j ∧ Hid (∃ m, wr = w2.drewN m)) (fun i _ => xs.length - (intOf i).toNat)
      case atStart => exact ⟨0, Nat.zero_le _, rfl, Lib.hid ⟨0, rfl⟩⟩
      case round =>
        obtain ⟨j, hj, rfl, HW⟩ := hrel
        have HL2 := Lib.hid (alike_ls HW.out HL.out)
        by_cases hlt : j < xs.length
        · obtain ⟨x, hx⟩ : ∃ x, xs[j]? = some x := ⟨_, List.getElem?_eq_getElem hlt⟩
          obtain ⟨g, off, hA, -, hcell⟩ := row_at HL2.out.1 hx
          subst hA
          have y0 := hcell 0 _ rfl
          have y1 := hcell 1 _ rfl
          clear hcell
          simp only [Nat.add_zero] at y0
          have hok := HLF.out.1 j x hx
          have HWS := Lib.hid (HL2.out.2 x (List.mem_of_getElem? hx))
          have HX := Lib.hid hx
          have hlo := hok.lo
          have hhi : x.no ≤ (E : Int) := by have := hok.hi; have := HEE.out; omega
          have hsm := hok.some_
          have hfew := hok.few
          have HWO := Lib.hid hok.word
          have hprev : ∀ y, 0 < j → xs[j - 1]? = some y → y.no < x.no := fun y h0 hy => HLF.out.2 (j - 1) x y hy (by rw [show j - 1 + 1 = j by omega]; exact hx)
          have HPR := Lib.hid hprev
          obtain ⟨xn, xv, xw⟩ := x
          obtain ⟨B, d, e, hd, -⟩ := id HWS.out.1
          simp only at e y0 y1 hlo hhi hsm hfew hprev
          subst e
          have hj1 : (j : Int) < (xs.length : Int) := by omega
          have hj0 : (0 : Int) ≤ (j : Int) := by omega
          have g1 : decide (xn < 1) = false := decide_eq_false (by omega)
          have g2 : decide ((E : Int) < xn) = false := decide_eq_false (by omega)
          have g3 : decide ((xw.length : Int) < 1) = false := decide_eq_false (by omega)
          have g4 : decide (14 < (xw.length : Int)) = false := decide_eq_false (by omega)
          clear hok hx hlo hhi hsm hprev
          by_cases hjz : j = 0
          case pos =>
              have g5 : decide (0 < j) = false := decide_eq_false (by omega)
              clear hjz
              go_upto_region 14 with fail
              go_quiet (fail)
              clear y0 y1 g1 g2 g3 g4 g5
              have HW2 := Lib.hid (drawn_on HW.out nq)
              clear HW
              generalize wr.drewN nq = wa at *
              go_wp2_with fail
              go_loopw [10] (fun i wr => ∃ n : Nat, n ≤ xw.length ∧ i = .int .i64 n ∧ Hid (∃ m, wr = w2.drewN m)) (fun i _ => xw.length - (intOf i).toNat)
              case atStart => exact ⟨0, Nat.zero_le _, rfl, HW2⟩
              case round =>
                clear HW2
                obtain ⟨n, hn, rfl, HV⟩ := hrel
                have HL3 := Lib.hid (alike_ls HV.out HL.out)
                obtain ⟨g2, off2, hA2, -, hcell⟩ := row_at HL3.out.1 HX.out
                injection hA2 with hA2
                injection hA2 with hg ho
                subst hg ho
                have y1 := hcell 1 _ rfl
                clear hcell
                by_cases hnl : n < xw.length
                · obtain ⟨u, hu⟩ : ∃ u, xw[n]? = some u := ⟨_, List.getElem?_eq_getElem hnl⟩
                  obtain ⟨g3, off3, hA3, hcell3⟩ := one_at (HL3.out.2 _ (List.mem_of_getElem? HX.out)).1 hu
                  subst hA3
                  have z0 := hcell3 _ rfl
                  have hwo := HWO.out u (List.mem_of_getElem? hu)
                  have HWB := Lib.hid hwo
                  have husz : u.size ≤ 1125899906842624 := by have := (word_fine hwo).2.1; have e : u.data.toList.length = u.size := by simp
                                                              omega
                  have hn1 : (n : Int) < (xw.length : Int) := by omega
                  have hn0 : (0 : Int) ≤ (n : Int) := by omega
                  clear hcell3 hu hwo
                  go_wp2_with (go_at_call 9; refine (lWord_any _ u husz).mono ?_; rintro e w3 ⟨rfl, rfl⟩; rw [HWB.out]; clear y1 z0)
                  go_roundw
                  case rel => exact ⟨n + 1, by omega, by go_num, HV⟩
                  case measure => simp [intOf]; omega
                · have hn2 : ¬ (n : Int) < (xw.length : Int) := by omega
                  go_wp2_with fail
                  go_roundw
                  case rel => exact ⟨j + 1, by omega, by go_num, HV⟩
                  case measure => simp [intOf]; omega
          case neg =>
              obtain ⟨y, hy⟩ : ∃ y, xs[j - 1]? = some y := ⟨_, List.getElem?_eq_getElem (by omega)⟩
              obtain ⟨g9, off9, hA9, -, hcell9⟩ := row_at HL2.out.1 hy
              injection hA9 with hA9
              injection hA9 with hg ho
              subst hg ho
              have y9 := hcell9 0 _ rfl
              have hpr := HPR.out y (by omega) hy
              have g5 : decide (0 < j) = true := decide_eq_true (by omega)
              obtain ⟨i1, hi1⟩ : ∃ i1 : Nat, i1 = j - 1 := ⟨_, rfl⟩
              rw [← hi1] at y9
              have hi2 : IntKind.i64.wrap ((j : Int) - 1) = (i1 : Int) := by rw [IntWalk.i64_in _ (by omega)]; omega
              have hi3 : (i1 : Int) < (xs.length : Int) := by omega
              have hi0 : (0 : Int) ≤ (i1 : Int) := by omega
              obtain ⟨yn, yv, yw⟩ := y
              simp only [Nat.add_zero] at y9
              have g6 : decide (xn ≤ yn) = false := decide_eq_false (by simp only at hpr; omega)
              clear hjz hy hcell9 hi1 hpr
              go_upto_region 14 with fail
              go_quiet (fail)
              clear y9 g6 hi2 hi3 hi0
              clear y0 y1 g1 g2 g3 g4 g5
              have HW2 := Lib.hid (drawn_on HW.out nq)
              clear HW
              generalize wr.drewN nq = wa at *
              go_wp2_with fail
              go_loopw [10] (fun i wr => ∃ n : Nat, n ≤ xw.length ∧ i = .int .i64 n ∧ Hid (∃ m, wr = w2.drewN m)) (fun i _ => xw.length - (intOf i).toNat)
              case atStart => exact ⟨0, Nat.zero_le _, rfl, HW2⟩
              case round =>
                clear HW2
                obtain ⟨n, hn, rfl, HV⟩ := hrel
                have HL3 := Lib.hid (alike_ls HV.out HL.out)
                obtain ⟨g2, off2, hA2, -, hcell⟩ := row_at HL3.out.1 HX.out
                injection hA2 with hA2
                injection hA2 with hg ho
                subst hg ho
                have y1 := hcell 1 _ rfl
                clear hcell
                by_cases hnl : n < xw.length
                · obtain ⟨u, hu⟩ : ∃ u, xw[n]? = some u := ⟨_, List.getElem?_eq_getElem hnl⟩
                  obtain ⟨g3, off3, hA3, hcell3⟩ := one_at (HL3.out.2 _ (List.mem_of_getElem? HX.out)).1 hu
                  subst hA3
                  have z0 := hcell3 _ rfl
                  have hwo := HWO.out u (List.mem_of_getElem? hu)
                  have HWB := Lib.hid hwo
                  have husz : u.size ≤ 1125899906842624 := by have := (word_fine hwo).2.1; have e : u.data.toList.length = u.size := by simp
                                                              omega
                  have hn1 : (n : Int) < (xw.length : Int) := by omega
                  have hn0 : (0 : Int) ≤ (n : Int) := by omega
                  clear hcell3 hu hwo
                  go_wp2_with (go_at_call 9; refine (lWord_any _ u husz).mono ?_; rintro e w3 ⟨rfl, rfl⟩; rw [HWB.out]; clear y1 z0)
                  go_roundw
                  case rel => exact ⟨n + 1, by omega, by go_num, HV⟩
                  case measure => simp [intOf]; omega
                · have hn2 : ¬ (n : Int) < (xw.length : Int) := by omega
                  go_wp2_with fail
                  go_roundw
                  case rel => exact ⟨j + 1, by omega, by go_num, HV⟩
                  case measure => simp [intOf]; omega
        · have hj2 : ¬ (j : Int) < (xs.length : Int) := by omega
          have hn0 := HN0.out
          have hn1 := HN1.out
          have HBE : Hid (Below w.heap.size w wr) := Lib.hid (by obtain ⟨m, rfl⟩ := HW.out; exact below_drewn HB.out m)
          by_cases hk0 : k = 0
          · have hz : no = 0 := by
              rcases HNO.out with h | h
              · exact absurd hk0 h
              · exact h
            clear HF HK HNO HN0 HN1 HLF
            subst hk0 hz
            go_wp2_with fail
            go_ret
            exact ⟨rfl, HBE.out⟩
          · have hx0 : xs = [] := by
              rcases HK.out with h | h
              · exact absurd h hk0
              · exact h
            have h1 : (k == 0) = false := by rw [beq_eq_false_iff_ne]; exact hk0
            have h2 : (k != 0) = true := by rw [bne, h1]; rfl
            have h3 : ((xs.length : Int) == 0) = true := by rw [hx0]; rfl
            clear hx0 hk0
            go_wp2_with fail
            go_ret
            exact ⟨rfl, HBE.out⟩
end Go.Proofs.YtpoihpehdlogbaaDoor
