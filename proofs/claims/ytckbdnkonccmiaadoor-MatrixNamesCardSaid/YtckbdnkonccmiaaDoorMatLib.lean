/-
  Aids to the walks over a matrix.
  The program's small tests, walked: within, letter, Word, keyed, same.
  The program's twins, walked.
  The program's twins of devices, points and effects, walked.
  The program's times, keyed and picks, walked.
  The program's devices, walked.
  The program's points, walked.
  The program's causes and effects, walked.
  The program's effects, walked.
  The program's named, walked.
  The program's Right, walked.
-/
import Derived.Test.YtckbdnkonccmiaaDoorLexB
namespace Go.Proofs.YtckbdnkonccmiaaDoor
open Go.RowKit
theorem hexB_iff (c : UInt8) : hexB c = true ↔ (48 ≤ (c.toNat : Int) ∧ (c.toNat : Int) ≤ 57) ∨ (97 ≤ (c.toNat : Int) ∧ (c.toNat : Int) ≤ 102) := by
  unfold hexB
  simp only [Bool.or_eq_true, Bool.and_eq_true, decide_eq_true_eq, UInt8.le_iff_toNat_le]
  simp only [show (97 : UInt8).toNat = 97 from rfl, show (102 : UInt8).toNat = 102 from rfl, show (48 : UInt8).toNat = 48 from rfl, show (57 : UInt8).toNat = 57 from rfl]
  omega
theorem hex_cases (c : UInt8) : ∃ n : Int, n = (c.toNat : Int) ∧ ((hexB c = true ∧ ((n < 48) = False ∧ ((57 < n) = False ∨ (57 < n) = True ∧ (n < 97) = False ∧ (102 < n) = False))) ∨ (hexB c = false ∧ ((n < 48) = True ∧ (n < 97) = True ∨ (n < 48) = False ∧ (57 < n) = True ∧ ((n < 97) = True ∨ (n < 97) = False ∧ (102 < n) = True)))) := by
  refine ⟨_, rfl, ?_⟩
  have h := hexB_iff c
  cases e : hexB c with
  | true =>
    have := h.1 e
    simp only [eq_iff_iff, iff_false, iff_true, true_and, false_and, or_false, reduceCtorEq]
    omega
  | false =>
    have : ¬ _ := fun x => by have := h.2 x; rw [e] at this; cases this
    simp only [eq_iff_iff, iff_false, iff_true, true_and, false_and, false_or, reduceCtorEq]
    omega
/-- none of the first ones is the k-th one -/
def FreshAt {α : Type} (same : α → α → Prop) (l : List α) (k j : Nat) : Prop := ∀ x, l[k]? = some x → Fresh same l x j
theorem freshAt_zero {α : Type} (same : α → α → Prop) (l : List α) (k : Nat) : FreshAt same l k 0 := fun x _ => fresh_zero same l x
theorem freshAt_step {α : Type} {same : α → α → Prop} {l : List α} {k j : Nat} {x y : α} (h : FreshAt same l k j) (hx : l[k]? = some x) (hy : l[j]? = some y) (hn : ¬ same y x) : FreshAt same l k (j + 1) := by
  intro z hz
  rw [hx] at hz; injection hz with hz; subst hz
  exact fresh_step (h x hx) hy hn
theorem not_fresh {α : Type} {same : α → α → Prop} {l : List α} {k j : Nat} {x y : α} (hj : j < k) (hy : l[j]? = some y) (hs : same y x) : ¬ Fresh same l x k := fun h => h j y hj hy hs
theorem some_one (x size : Int) : someP [x] 1 size ↔ 0 ≤ x ∧ x < size := by
  constructor
  · intro h
    exact (h.2.2 0 x rfl).1
  · intro h
    refine ⟨by simp, by simp, fun i y hy => ?_⟩
    obtain ⟨hi, e⟩ := List.getElem?_eq_some_iff.1 hy
    obtain rfl : i = 0 := by simp at hi; omega
    simp at e
    subst e
    exact ⟨h, fresh_zero _ _ _⟩
/-- a row of one number, laid anew -/
theorem nums_one (w : World) (x : Int) {g : Nat} (hg : w.heap.size = g) (t : TypeId) : NumsAt (w.alloc (.cells #[.int .i64 x] t)) [x] (.slice (some ⟨g, 0, none⟩) 1 1) := by
  subst hg
  refine ⟨_, 1, rfl, Nat.le_refl _, fun _ => ⟨w.heap.size, 0, rfl, by simp, fun i y hy d u hu => ?_⟩⟩
  obtain ⟨hi, e⟩ := List.getElem?_eq_some_iff.1 hy
  obtain rfl : i = 0 := by simp at hi; omega
  simp at e
  subst e
  obtain ⟨hd, e⟩ := List.getElem?_eq_some_iff.1 hu
  obtain rfl : d = 0 := by simp [nC] at hd; omega
  simp [nC] at e
  subst e
  rw [cell_of_row _ _ _ _ _ _ (heap_alloc_new w _)]
  rfl
/-- the names that are gathered lie at vo, beside the matrix's own cells -/
def NamesIs (W0 : World) (g : Nat) (bx : Array Value) (l : List ByteArray) (n : Nat) (vo : Value) (wr : World) : Prop :=
  n = l.length ∧ wr.ownsRow W0.heap.size 9 1 vo n (l.flatMap sC) ∧ Below W0.heap.size W0 wr ∧ Words.Blk wr g 27 bx
theorem NamesIs.app {W0 wr w2 : World} {g n : Nat} {bx : Array Value} {l l' : List ByteArray} {s : ByteArray} {vo v' : Value} {ob : Obj} (h : NamesIs W0 g bx l n vo wr)
    (ho : w2.ownsRow W0.heap.size 9 1 v' (n + 1) (l.flatMap sC ++ sC s)) (hg : (wr.alloc ob).grownBy w2 vo.ownBlock) (hl : l' = l ++ [s]) : NamesIs W0 g bx l' (n + 1) v' w2 := by
  subst hl
  refine ⟨by simp [h.1], by simpa using ho, (h.2.2.1.alloc h.2.2.1.size ob).grown hg (by have := h.2.2.1.size; simp; omega) (fun k hk => (h.2.1.lt k hk).1), (h.2.2.2.alloc ob).grown hg (fun e => Words.own_blk_ne h.2.1 h.2.2.2 (by decide) e.symm)⟩
theorem take_next {α : Type} (f : α → ByteArray) (P : List ByteArray) (l : List α) {k : Nat} {x : α} (hx : l[k]? = some x) : P ++ (l.take (k + 1)).map f = (P ++ (l.take k).map f) ++ [f x] := by
  rw [List.take_add_one, hx]
  simp
/-- within the form's own reach -/
structure MatSmall (m : Mat) : Prop where
  key : m.key.size ≤ 1125899906842624
  devs : m.devs.length ≤ 1125899906842624
  pts : m.pts.length ≤ 1125899906842624
  css : m.css.length ≤ 1125899906842624
  efs : m.efs.length ≤ 1125899906842624
  cpts : ∀ c ∈ m.css, c.pts.length ≤ 1125899906842624
  ecs : ∀ c ∈ m.efs, c.cs.length ≤ 1125899906842624
  names : ∀ s ∈ m.names, s.size ≤ 1125899906842624
end Go.Proofs.YtckbdnkonccmiaaDoor
namespace Go.Proofs.YtckbdnkonccmiaaDoor
open Go.RowKit
set_option maxRecDepth 100000 in
theorem mwithin64_any (w : World) (n a b : Int) :
    Calls Tryd.prog 40 #[.int .i64 n, .int .i64 a, .int .i64 b] w fun e w' => e = .returned (.bool (decide (a ≤ n ∧ n ≤ b))) ∧ w = w' := by
  by_cases h0 : a ≤ n
  · by_cases h1 : n ≤ b
    · rw [decide_eq_true ⟨h0, h1⟩]
      go_enter Tryd.func40, Tryd.ntmps40
      go_wp2_with fail
      go_ret
      exact ⟨rfl, rfl⟩
    · rw [decide_eq_false (by omega)]
      go_enter Tryd.func40, Tryd.ntmps40
      go_wp2_with fail
      go_ret
      exact ⟨rfl, rfl⟩
  · rw [decide_eq_false (by omega)]
    go_enter Tryd.func40, Tryd.ntmps40
    go_wp2_with fail
    go_ret
    exact ⟨rfl, rfl⟩
set_option maxRecDepth 100000 in
theorem mwithin_any (w : World) (n a b : Int) :
    Calls Tryd.prog 44 #[.int .i64 n, .int .i64 a, .int .i64 b] w fun e w' => e = .returned (.bool (decide (a ≤ n ∧ n ≤ b))) ∧ w = w' := by
  by_cases h0 : a ≤ n
  · by_cases h1 : n ≤ b
    · rw [decide_eq_true ⟨h0, h1⟩]
      go_enter Tryd.func44, Tryd.ntmps44
      go_wp2_with fail
      go_ret
      exact ⟨rfl, rfl⟩
    · rw [decide_eq_false (by omega)]
      go_enter Tryd.func44, Tryd.ntmps44
      go_wp2_with fail
      go_ret
      exact ⟨rfl, rfl⟩
  · rw [decide_eq_false (by omega)]
    go_enter Tryd.func44, Tryd.ntmps44
    go_wp2_with fail
    go_ret
    exact ⟨rfl, rfl⟩
set_option maxRecDepth 100000 in
theorem sameS_any (w : World) (x y : ByteArray) :
    Calls Tryd.prog 43 #[.string x, .string y] w fun e w' => e = .returned (.bool (x.toList == y.toList)) ∧ w = w' := by
  go_enter Tryd.func43, Tryd.ntmps43
  go_wp2_with fail
  go_ret
  exact ⟨rfl, rfl⟩
set_option maxRecDepth 100000 in
theorem sameI_any (w : World) (x y : Int) :
    Calls Tryd.prog 65 #[.int .i64 x, .int .i64 y] w fun e w' => e = .returned (.bool (x == y)) ∧ w = w' := by
  go_enter Tryd.func65, Tryd.ntmps65
  go_wp2_with fail
  go_ret
  exact ⟨rfl, rfl⟩
end Go.Proofs.YtckbdnkonccmiaaDoor
namespace Go.Proofs.YtckbdnkonccmiaaDoor
open Go.RowKit
theorem tells_call {p q : Prop} {w : World} {e : Ending} {w' : World} (h : Tells p w e w') (hpq : p ↔ q) : Tells q w e w' := by
  obtain ⟨b, e, hb, hB⟩ := h
  exact ⟨b, e, hb.trans hpq, hB⟩
set_option maxHeartbeats 4000000 in
set_option maxRecDepth 100000 in
theorem twinsS_any (w : World) (l : List ByteArray) (v : Value) (h : StrsAt w l v) (hl : l.length ≤ 1125899906842624) :
    Calls Tryd.prog 42 #[v, .func (.func 43) #[] #[]] w (Tells (¬ All (fun i s => Fresh (· = ·) l s i) l) w) := by
  obtain ⟨A, c, e, hc, -⟩ := id h
  subst e
  have HL := Lib.hid h
  clear h
  go_enter Tryd.func42, Tryd.ntmps42
  go_wp2_with fail
  go_loopw [9] (fun i wr => ∃ k : Nat, k ≤ l.length ∧ i = .int .i64 k ∧ Hid (Upto (fun i s => Fresh (· = ·) l s i) l k) ∧ Hid (Below w.heap.size w wr)) (fun i _ => l.length - (intOf i).toNat)
  case atStart => exact ⟨0, Nat.zero_le _, rfl, Lib.hid (upto_zero _ _), Lib.hid (Below.refl _ _)⟩
  case round =>
    obtain ⟨k, hk, rfl, HU, HW⟩ := hrel
    by_cases hlt : k < l.length
    · obtain ⟨x, hx⟩ : ∃ x, l[k]? = some x := ⟨_, List.getElem?_eq_getElem hlt⟩
      obtain ⟨b, off, hA, hcell⟩ := one_at (LawFrame.RowsAt.below HL.out HW.out) hx
      subst hA
      clear hcell
      have HX := Lib.hid hx
      have hk1 : (k : Int) < (l.length : Int) := by omega
      have hk0 : (0 : Int) ≤ (k : Int) := by omega
      clear hx
      go_wp2_with fail
      obtain ⟨wo, rfl⟩ : ∃ wo : World, wo = wr := ⟨_, rfl⟩
      go_loopw [13] (fun i wr => ∃ j : Nat, j ≤ k ∧ i = .int .i64 j ∧ Hid (FreshAt (· = ·) l k j) ∧ Hid (Below w.heap.size w wr)) (fun i _ => l.length - (intOf i).toNat)
      case atStart => exact ⟨0, Nat.zero_le _, rfl, Lib.hid (freshAt_zero _ _ _), HW⟩
      case round =>
        clear HW
        obtain ⟨j, hj, rfl, HF, HW⟩ := hrel
        by_cases hjk : j < k
        · obtain ⟨b', off', hA, hcell⟩ := one_at (LawFrame.RowsAt.below HL.out HW.out) HX.out
          injection hA with hA
          injection hA with hA1 hA2 _
          subst hA1 hA2
          have y0 := hcell _ rfl
          clear hcell
          obtain ⟨y, hy⟩ : ∃ y, l[j]? = some y := ⟨_, List.getElem?_eq_getElem (by omega)⟩
          obtain ⟨b', off', hA, hcell⟩ := one_at (LawFrame.RowsAt.below HL.out HW.out) hy
          injection hA with hA
          injection hA with hA1 hA2 _
          subst hA1 hA2
          have y1 := hcell _ rfl
          have HY := Lib.hid hy
          have hjl : (j : Int) < (l.length : Int) := by omega
          have hj0 : (0 : Int) ≤ (j : Int) := by omega
          have hjk1 : (j : Int) < (k : Int) := by omega
          clear hcell hy
          go_upto_region 7 with fail
          go_still_tail 9, (by kernel_rfl)
          have HW1 := Lib.hid HW.out.drew
          change wpList _ _ _ _ _ wr.drew
          clear y0 y1 HW
          generalize wr.drew = wa at *
          go_wp2_with fail
          refine (sameS_any _ y x).mono ?_
          rintro e w1 ⟨rfl, rfl⟩
          have hcs : Hid (y = x) ∧ (y.toList == x.toList) = true ∨ Hid (¬ y = x) ∧ (y.toList == x.toList) = false := by
            by_cases e : y = x
            · exact .inl ⟨Lib.hid e, (bytes_eq _ _).2 e⟩
            · exact .inr ⟨Lib.hid e, bytes_ne e⟩
          rcases hcs with ⟨HE, hxy⟩ | ⟨HE, hxy⟩
          · have HNO := Lib.hid (show ¬ All (fun i s => Fresh (· = ·) l s i) l from fun hp => not_fresh hjk HY.out HE.out (hp k x HX.out))
            rw [hxy]
            clear hxy
            go_wp2_with fail
            go_ret
            exact tells_yes HNO.out HW1.out
          · rw [hxy]
            clear hxy
            go_wp2_with fail
            go_roundw
            case rel => exact ⟨j + 1, by omega, by go_num, Lib.hid (freshAt_step HF.out HX.out HY.out HE.out), HW1⟩
            case measure => simp [intOf]; omega
        · obtain rfl : j = k := by omega
          have HP := Lib.hid (upto_step HU.out HX.out (HF.out x HX.out))
          go_wp2_with fail
          go_roundw
          case rel => exact ⟨j + 1, by omega, by go_num, HP, HW⟩
          case measure => simp [intOf]; omega
    · have hkl : k = l.length := by omega
      have HA := Lib.hid (upto_all (by rw [← hkl]; exact HU.out))
      clear hkl
      have hk2 : ¬ (k : Int) < (l.length : Int) := by omega
      go_wp2_with fail
      go_ret
      exact tells_no (fun hn => hn HA.out) HW.out
set_option maxHeartbeats 4000000 in
set_option maxRecDepth 100000 in
theorem twinsI_any (w : World) (l : List Int) (v : Value) (h : NumsAt w l v) (hl : l.length ≤ 1125899906842624) :
    Calls Tryd.prog 64 #[v, .func (.func 65) #[] #[]] w (Tells (¬ All (fun i s => Fresh (· = ·) l s i) l) w) := by
  obtain ⟨A, c, e, hc, -⟩ := id h
  subst e
  have HL := Lib.hid h
  clear h
  go_enter Tryd.func64, Tryd.ntmps64
  go_wp2_with fail
  go_loopw [9] (fun i wr => ∃ k : Nat, k ≤ l.length ∧ i = .int .i64 k ∧ Hid (Upto (fun i s => Fresh (· = ·) l s i) l k) ∧ Hid (Below w.heap.size w wr)) (fun i _ => l.length - (intOf i).toNat)
  case atStart => exact ⟨0, Nat.zero_le _, rfl, Lib.hid (upto_zero _ _), Lib.hid (Below.refl _ _)⟩
  case round =>
    obtain ⟨k, hk, rfl, HU, HW⟩ := hrel
    by_cases hlt : k < l.length
    · obtain ⟨x, hx⟩ : ∃ x, l[k]? = some x := ⟨_, List.getElem?_eq_getElem hlt⟩
      obtain ⟨b, off, hA, hcell⟩ := one_at (LawFrame.RowsAt.below HL.out HW.out) hx
      subst hA
      clear hcell
      have HX := Lib.hid hx
      have hk1 : (k : Int) < (l.length : Int) := by omega
      have hk0 : (0 : Int) ≤ (k : Int) := by omega
      clear hx
      go_wp2_with fail
      obtain ⟨wo, rfl⟩ : ∃ wo : World, wo = wr := ⟨_, rfl⟩
      go_loopw [13] (fun i wr => ∃ j : Nat, j ≤ k ∧ i = .int .i64 j ∧ Hid (FreshAt (· = ·) l k j) ∧ Hid (Below w.heap.size w wr)) (fun i _ => l.length - (intOf i).toNat)
      case atStart => exact ⟨0, Nat.zero_le _, rfl, Lib.hid (freshAt_zero _ _ _), HW⟩
      case round =>
        clear HW
        obtain ⟨j, hj, rfl, HF, HW⟩ := hrel
        by_cases hjk : j < k
        · obtain ⟨b', off', hA, hcell⟩ := one_at (LawFrame.RowsAt.below HL.out HW.out) HX.out
          injection hA with hA
          injection hA with hA1 hA2 _
          subst hA1 hA2
          have y0 := hcell _ rfl
          clear hcell
          obtain ⟨y, hy⟩ : ∃ y, l[j]? = some y := ⟨_, List.getElem?_eq_getElem (by omega)⟩
          obtain ⟨b', off', hA, hcell⟩ := one_at (LawFrame.RowsAt.below HL.out HW.out) hy
          injection hA with hA
          injection hA with hA1 hA2 _
          subst hA1 hA2
          have y1 := hcell _ rfl
          have HY := Lib.hid hy
          have hjl : (j : Int) < (l.length : Int) := by omega
          have hj0 : (0 : Int) ≤ (j : Int) := by omega
          have hjk1 : (j : Int) < (k : Int) := by omega
          clear hcell hy
          go_upto_region 7 with fail
          go_still_tail 9, (by kernel_rfl)
          have HW1 := Lib.hid HW.out.drew
          change wpList _ _ _ _ _ wr.drew
          clear y0 y1 HW
          generalize wr.drew = wa at *
          go_wp2_with fail
          refine (sameI_any _ y x).mono ?_
          rintro e w1 ⟨rfl, rfl⟩
          have hcs : Hid (y = x) ∧ (y == x) = true ∨ Hid (¬ y = x) ∧ (y == x) = false := by
            by_cases e : y = x
            · exact .inl ⟨Lib.hid e, by simp [e]⟩
            · exact .inr ⟨Lib.hid e, by simp [e]⟩
          rcases hcs with ⟨HE, hxy⟩ | ⟨HE, hxy⟩
          · have HNO := Lib.hid (show ¬ All (fun i s => Fresh (· = ·) l s i) l from fun hp => not_fresh hjk HY.out HE.out (hp k x HX.out))
            rw [hxy]
            clear hxy
            go_wp2_with fail
            go_ret
            exact tells_yes HNO.out HW1.out
          · rw [hxy]
            clear hxy
            go_wp2_with fail
            go_roundw
            case rel => exact ⟨j + 1, by omega, by go_num, Lib.hid (freshAt_step HF.out HX.out HY.out HE.out), HW1⟩
            case measure => simp [intOf]; omega
        · obtain rfl : j = k := by omega
          have HP := Lib.hid (upto_step HU.out HX.out (HF.out x HX.out))
          go_wp2_with fail
          go_roundw
          case rel => exact ⟨j + 1, by omega, by go_num, HP, HW⟩
          case measure => simp [intOf]; omega
    · have hkl : k = l.length := by omega
      have HA := Lib.hid (upto_all (by rw [← hkl]; exact HU.out))
      clear hkl
      have hk2 : ¬ (k : Int) < (l.length : Int) := by omega
      go_wp2_with fail
      go_ret
      exact tells_no (fun hn => hn HA.out) HW.out
end Go.Proofs.YtckbdnkonccmiaaDoor
namespace Go.Proofs.YtckbdnkonccmiaaDoor
open Go.RowKit
set_option maxHeartbeats 4000000 in
set_option maxRecDepth 100000 in
theorem devTwin_any (w : World) (yn xn : ByteArray) (yl yu xl xu : Int) :
    Calls Tryd.prog 46 #[.agg #[.string yn, .int .i64 yl, .int .i64 yu], .agg #[.string xn, .int .i64 xl, .int .i64 xu]] w fun e w' => e = .returned (.bool (decide (yl = xl ∧ yu = xu))) ∧ Below w.heap.size w w' := by
  have HB := Lib.hid (((Below.refl w.heap.size w).alloc (Nat.le_refl _) (.cells #[.string yn, .int .i64 yl, .int .i64 yu] 47)).alloc (by simp) (.cells #[.string xn, .int .i64 xl, .int .i64 xu] 47))
  by_cases h1 : yl = xl
  · by_cases h2 : yu = xu
    · rw [decide_eq_true ⟨h1, h2⟩]
      have e1 : (yl == xl) = true := by simp [h1]
      have e2 : (yu == xu) = true := by simp [h2]
      clear h1 h2
      go_enter Tryd.func46, Tryd.ntmps46
      go_wp2_with fail
      go_ret
      exact ⟨rfl, HB.out⟩
    · rw [decide_eq_false (fun h => h2 h.2)]
      have e1 : (yl == xl) = true := by simp [h1]
      have e2 : (yu == xu) = false := by simp [h2]
      clear h1 h2
      go_enter Tryd.func46, Tryd.ntmps46
      go_wp2_with fail
      go_ret
      exact ⟨rfl, HB.out⟩
  · rw [decide_eq_false (fun h => h1 h.1)]
    have e1 : (yl == xl) = false := by simp [h1]
    clear h1
    go_enter Tryd.func46, Tryd.ntmps46
    go_wp2_with fail
    go_ret
    exact ⟨rfl, HB.out⟩
set_option maxHeartbeats 4000000 in
set_option maxRecDepth 100000 in
theorem twinsD_any (w : World) (l : List Dev) (v : Value) (h : DevsAt w l v) (hl : l.length ≤ 1125899906842624) :
    Calls Tryd.prog 45 #[v, .func (.func 46) #[] #[]] w (Tells (¬ All (fun i s => Fresh (fun a b : Dev => a.line = b.line ∧ a.unit = b.unit) l s i) l) w) := by
  obtain ⟨A, c, e, hc, -⟩ := id h
  subst e
  have HL := Lib.hid h
  clear h
  go_enter Tryd.func45, Tryd.ntmps45
  go_wp2_with fail
  go_loopw [9] (fun i wr => ∃ k : Nat, k ≤ l.length ∧ i = .int .i64 k ∧ Hid (Upto (fun i s => Fresh (fun a b : Dev => a.line = b.line ∧ a.unit = b.unit) l s i) l k) ∧ Hid (Below w.heap.size w wr)) (fun i _ => l.length - (intOf i).toNat)
  case atStart => exact ⟨0, Nat.zero_le _, rfl, Lib.hid (upto_zero _ _), Lib.hid (Below.refl _ _)⟩
  case round =>
    obtain ⟨k, hk, rfl, HU, HW⟩ := hrel
    by_cases hlt : k < l.length
    · obtain ⟨x, hx⟩ : ∃ x, l[k]? = some x := ⟨_, List.getElem?_eq_getElem hlt⟩
      obtain ⟨b, off, hA, hb, hcell⟩ := row_at (LawFrame.RowsAt.below HL.out HW.out) hx
      subst hA
      clear hcell hb
      have HX := Lib.hid hx
      have hk1 : (k : Int) < (l.length : Int) := by omega
      have hk0 : (0 : Int) ≤ (k : Int) := by omega
      clear hx
      go_wp2_with fail
      obtain ⟨wo, rfl⟩ : ∃ wo : World, wo = wr := ⟨_, rfl⟩
      go_loopw [13] (fun i wr => ∃ j : Nat, j ≤ k ∧ i = .int .i64 j ∧ Hid (FreshAt (fun a b : Dev => a.line = b.line ∧ a.unit = b.unit) l k j) ∧ Hid (Below w.heap.size w wr)) (fun i _ => l.length - (intOf i).toNat)
      case atStart => exact ⟨0, Nat.zero_le _, rfl, Lib.hid (freshAt_zero _ _ _), HW⟩
      case round =>
        clear HW
        obtain ⟨j, hj, rfl, HF, HW⟩ := hrel
        by_cases hjk : j < k
        · obtain ⟨b', off', hA, hb, hcell⟩ := row_at (LawFrame.RowsAt.below HL.out HW.out) HX.out
          injection hA with hA
          injection hA with hA1 hA2 _
          subst hA1 hA2
          have y0 := hcell 0 _ rfl
          have y1 := hcell 1 _ rfl
          have y2 := hcell 2 _ rfl
          clear hcell hb
          obtain ⟨y, hy⟩ : ∃ y, l[j]? = some y := ⟨_, List.getElem?_eq_getElem (by omega)⟩
          obtain ⟨b', off', hA, hb, hcell⟩ := row_at (LawFrame.RowsAt.below HL.out HW.out) hy
          injection hA with hA
          injection hA with hA1 hA2 _
          subst hA1 hA2
          have z0 := hcell 0 _ rfl
          have z1 := hcell 1 _ rfl
          have z2 := hcell 2 _ rfl
          simp only [Nat.add_zero] at y0 z0
          have HY := Lib.hid hy
          have hjl : (j : Int) < (l.length : Int) := by omega
          have hj0 : (0 : Int) ≤ (j : Int) := by omega
          have hjk1 : (j : Int) < (k : Int) := by omega
          clear hcell hy hb
          obtain ⟨xn, xl, xu⟩ := x
          obtain ⟨yn, yl, yu⟩ := y
          simp only at y0 z0 y1 z1 y2 z2
          go_upto_region 7 with fail
          go_still_tail 9, (by kernel_rfl)
          have HW1 := Lib.hid HW.out.drew
          change wpList _ _ _ _ _ wr.drew
          clear y0 z0 y1 z1 y2 z2 HW
          generalize wr.drew = wa at *
          go_wp2_with fail
          refine (devTwin_any _ _ _ _ _ _ _).mono ?_
          rintro e w1 ⟨rfl, hB⟩
          have HW2 := Lib.hid (HW1.out.trans (hB.mono HW1.out.size))
          clear hB HW1
          by_cases hxy : yl = xl ∧ yu = xu
          · have HNO := Lib.hid (show ¬ All (fun i s => Fresh (fun a b : Dev => a.line = b.line ∧ a.unit = b.unit) l s i) l from fun hp => not_fresh hjk HY.out hxy (hp k _ HX.out))
            rw [decide_eq_true hxy]
            clear hxy
            go_wp2_with fail
            go_ret
            exact tells_yes HNO.out HW2.out
          · rw [decide_eq_false hxy]
            have HE := Lib.hid hxy
            clear hxy
            go_wp2_with fail
            go_roundw
            case rel => exact ⟨j + 1, by omega, by go_num, Lib.hid (freshAt_step HF.out HX.out HY.out HE.out), HW2⟩
            case measure => simp [intOf]; omega
        · obtain rfl : j = k := by omega
          have HP := Lib.hid (upto_step HU.out HX.out (HF.out x HX.out))
          go_wp2_with fail
          go_roundw
          case rel => exact ⟨j + 1, by omega, by go_num, HP, HW⟩
          case measure => simp [intOf]; omega
    · have hkl : k = l.length := by omega
      have HA := Lib.hid (upto_all (by rw [← hkl]; exact HU.out))
      clear hkl
      have hk2 : ¬ (k : Int) < (l.length : Int) := by omega
      go_wp2_with fail
      go_ret
      exact tells_no (fun hn => hn HA.out) HW.out
set_option maxHeartbeats 4000000 in
set_option maxRecDepth 100000 in
theorem ptTwin_any (w : World) (yn xn : ByteArray) (yd yp yt yo yf xd xp xt xo xf : Int) :
    Calls Tryd.prog 48 #[.agg #[.string yn, .int .i64 yd, .int .i64 yp, .int .i64 yt, .int .i64 yo, .int .i64 yf], .agg #[.string xn, .int .i64 xd, .int .i64 xp, .int .i64 xt, .int .i64 xo, .int .i64 xf]] w fun e w' => e = .returned (.bool (decide (yd = xd ∧ yp = xp))) ∧ Below w.heap.size w w' := by
  have HB := Lib.hid (((Below.refl w.heap.size w).alloc (Nat.le_refl _) (.cells #[.string yn, .int .i64 yd, .int .i64 yp, .int .i64 yt, .int .i64 yo, .int .i64 yf] 45)).alloc (by simp) (.cells #[.string xn, .int .i64 xd, .int .i64 xp, .int .i64 xt, .int .i64 xo, .int .i64 xf] 45))
  by_cases h1 : yd = xd
  · by_cases h2 : yp = xp
    · rw [decide_eq_true ⟨h1, h2⟩]
      have e1 : (yd == xd) = true := by simp [h1]
      have e2 : (yp == xp) = true := by simp [h2]
      clear h1 h2
      go_enter Tryd.func48, Tryd.ntmps48
      go_wp2_with fail
      go_ret
      exact ⟨rfl, HB.out⟩
    · rw [decide_eq_false (fun h => h2 h.2)]
      have e1 : (yd == xd) = true := by simp [h1]
      have e2 : (yp == xp) = false := by simp [h2]
      clear h1 h2
      go_enter Tryd.func48, Tryd.ntmps48
      go_wp2_with fail
      go_ret
      exact ⟨rfl, HB.out⟩
  · rw [decide_eq_false (fun h => h1 h.1)]
    have e1 : (yd == xd) = false := by simp [h1]
    clear h1
    go_enter Tryd.func48, Tryd.ntmps48
    go_wp2_with fail
    go_ret
    exact ⟨rfl, HB.out⟩
set_option maxHeartbeats 4000000 in
set_option maxRecDepth 100000 in
theorem twinsP_any (w : World) (l : List Pt) (v : Value) (h : PtsAt w l v) (hl : l.length ≤ 1125899906842624) :
    Calls Tryd.prog 47 #[v, .func (.func 48) #[] #[]] w (Tells (¬ All (fun i s => Fresh (fun a b : Pt => a.dev = b.dev ∧ a.place = b.place) l s i) l) w) := by
  obtain ⟨A, c, e, hc, -⟩ := id h
  subst e
  have HL := Lib.hid h
  clear h
  go_enter Tryd.func47, Tryd.ntmps47
  go_wp2_with fail
  go_loopw [9] (fun i wr => ∃ k : Nat, k ≤ l.length ∧ i = .int .i64 k ∧ Hid (Upto (fun i s => Fresh (fun a b : Pt => a.dev = b.dev ∧ a.place = b.place) l s i) l k) ∧ Hid (Below w.heap.size w wr)) (fun i _ => l.length - (intOf i).toNat)
  case atStart => exact ⟨0, Nat.zero_le _, rfl, Lib.hid (upto_zero _ _), Lib.hid (Below.refl _ _)⟩
  case round =>
    obtain ⟨k, hk, rfl, HU, HW⟩ := hrel
    by_cases hlt : k < l.length
    · obtain ⟨x, hx⟩ : ∃ x, l[k]? = some x := ⟨_, List.getElem?_eq_getElem hlt⟩
      obtain ⟨b, off, hA, hb, hcell⟩ := row_at (LawFrame.RowsAt.below HL.out HW.out) hx
      subst hA
      clear hcell hb
      have HX := Lib.hid hx
      have hk1 : (k : Int) < (l.length : Int) := by omega
      have hk0 : (0 : Int) ≤ (k : Int) := by omega
      clear hx
      go_wp2_with fail
      obtain ⟨wo, rfl⟩ : ∃ wo : World, wo = wr := ⟨_, rfl⟩
      go_loopw [13] (fun i wr => ∃ j : Nat, j ≤ k ∧ i = .int .i64 j ∧ Hid (FreshAt (fun a b : Pt => a.dev = b.dev ∧ a.place = b.place) l k j) ∧ Hid (Below w.heap.size w wr)) (fun i _ => l.length - (intOf i).toNat)
      case atStart => exact ⟨0, Nat.zero_le _, rfl, Lib.hid (freshAt_zero _ _ _), HW⟩
      case round =>
        clear HW
        obtain ⟨j, hj, rfl, HF, HW⟩ := hrel
        by_cases hjk : j < k
        · obtain ⟨b', off', hA, hb, hcell⟩ := row_at (LawFrame.RowsAt.below HL.out HW.out) HX.out
          injection hA with hA
          injection hA with hA1 hA2 _
          subst hA1 hA2
          have y0 := hcell 0 _ rfl
          have y1 := hcell 1 _ rfl
          have y2 := hcell 2 _ rfl
          have y3 := hcell 3 _ rfl
          have y4 := hcell 4 _ rfl
          have y5 := hcell 5 _ rfl
          clear hcell hb
          obtain ⟨y, hy⟩ : ∃ y, l[j]? = some y := ⟨_, List.getElem?_eq_getElem (by omega)⟩
          obtain ⟨b', off', hA, hb, hcell⟩ := row_at (LawFrame.RowsAt.below HL.out HW.out) hy
          injection hA with hA
          injection hA with hA1 hA2 _
          subst hA1 hA2
          have z0 := hcell 0 _ rfl
          have z1 := hcell 1 _ rfl
          have z2 := hcell 2 _ rfl
          have z3 := hcell 3 _ rfl
          have z4 := hcell 4 _ rfl
          have z5 := hcell 5 _ rfl
          simp only [Nat.add_zero] at y0 z0
          have HY := Lib.hid hy
          have hjl : (j : Int) < (l.length : Int) := by omega
          have hj0 : (0 : Int) ≤ (j : Int) := by omega
          have hjk1 : (j : Int) < (k : Int) := by omega
          clear hcell hy hb
          obtain ⟨xn, xd, xp, xt, xo, xf⟩ := x
          obtain ⟨yn, yd, yp, yt, yo, yf⟩ := y
          simp only at y0 z0 y1 z1 y2 z2 y3 z3 y4 z4 y5 z5
          go_upto_region 7 with fail
          go_still_tail 9, (by kernel_rfl)
          have HW1 := Lib.hid HW.out.drew
          change wpList _ _ _ _ _ wr.drew
          clear y0 z0 y1 z1 y2 z2 y3 z3 y4 z4 y5 z5 HW
          generalize wr.drew = wa at *
          go_wp2_with fail
          refine (ptTwin_any _ _ _ _ _ _ _ _ _ _ _ _ _).mono ?_
          rintro e w1 ⟨rfl, hB⟩
          have HW2 := Lib.hid (HW1.out.trans (hB.mono HW1.out.size))
          clear hB HW1
          by_cases hxy : yd = xd ∧ yp = xp
          · have HNO := Lib.hid (show ¬ All (fun i s => Fresh (fun a b : Pt => a.dev = b.dev ∧ a.place = b.place) l s i) l from fun hp => not_fresh hjk HY.out hxy (hp k _ HX.out))
            rw [decide_eq_true hxy]
            clear hxy
            go_wp2_with fail
            go_ret
            exact tells_yes HNO.out HW2.out
          · rw [decide_eq_false hxy]
            have HE := Lib.hid hxy
            clear hxy
            go_wp2_with fail
            go_roundw
            case rel => exact ⟨j + 1, by omega, by go_num, Lib.hid (freshAt_step HF.out HX.out HY.out HE.out), HW2⟩
            case measure => simp [intOf]; omega
        · obtain rfl : j = k := by omega
          have HP := Lib.hid (upto_step HU.out HX.out (HF.out x HX.out))
          go_wp2_with fail
          go_roundw
          case rel => exact ⟨j + 1, by omega, by go_num, HP, HW⟩
          case measure => simp [intOf]; omega
    · have hkl : k = l.length := by omega
      have HA := Lib.hid (upto_all (by rw [← hkl]; exact HU.out))
      clear hkl
      have hk2 : ¬ (k : Int) < (l.length : Int) := by omega
      go_wp2_with fail
      go_ret
      exact tells_no (fun hn => hn HA.out) HW.out
set_option maxHeartbeats 4000000 in
set_option maxRecDepth 100000 in
theorem efTwin_any (w : World) (yn xn : ByteArray) (yd yp yt xd xp xt : Int) (yA xA : Option Addr) (yb yc xb xc : Nat) :
    Calls Tryd.prog 51 #[.agg #[.string yn, .int .i64 yd, .int .i64 yp, .int .i64 yt, .slice yA yb yc], .agg #[.string xn, .int .i64 xd, .int .i64 xp, .int .i64 xt, .slice xA xb xc]] w fun e w' => e = .returned (.bool (decide (yd = xd ∧ yp = xp))) ∧ Below w.heap.size w w' := by
  have HB := Lib.hid (((Below.refl w.heap.size w).alloc (Nat.le_refl _) (.cells #[.string yn, .int .i64 yd, .int .i64 yp, .int .i64 yt, .slice yA yb yc] 54)).alloc (by simp) (.cells #[.string xn, .int .i64 xd, .int .i64 xp, .int .i64 xt, .slice xA xb xc] 54))
  by_cases h1 : yd = xd
  · by_cases h2 : yp = xp
    · rw [decide_eq_true ⟨h1, h2⟩]
      have e1 : (yd == xd) = true := by simp [h1]
      have e2 : (yp == xp) = true := by simp [h2]
      clear h1 h2
      go_enter Tryd.func51, Tryd.ntmps51
      go_wp2_with fail
      go_ret
      exact ⟨rfl, HB.out⟩
    · rw [decide_eq_false (fun h => h2 h.2)]
      have e1 : (yd == xd) = true := by simp [h1]
      have e2 : (yp == xp) = false := by simp [h2]
      clear h1 h2
      go_enter Tryd.func51, Tryd.ntmps51
      go_wp2_with fail
      go_ret
      exact ⟨rfl, HB.out⟩
  · rw [decide_eq_false (fun h => h1 h.1)]
    have e1 : (yd == xd) = false := by simp [h1]
    clear h1
    go_enter Tryd.func51, Tryd.ntmps51
    go_wp2_with fail
    go_ret
    exact ⟨rfl, HB.out⟩
set_option maxHeartbeats 4000000 in
set_option maxRecDepth 100000 in
theorem twinsE_any (w : World) (l : List Ef) (v : Value) (h : EfsAt w l v) (hl : l.length ≤ 1125899906842624) :
    Calls Tryd.prog 50 #[v, .func (.func 51) #[] #[]] w (Tells (¬ All (fun i s => Fresh (fun a b : Ef => a.dev = b.dev ∧ a.place = b.place) l s i) l) w) := by
  obtain ⟨A, c, e, hc, -⟩ := id h.1
  subst e
  have HL := Lib.hid h
  clear h
  go_enter Tryd.func50, Tryd.ntmps50
  go_wp2_with fail
  go_loopw [9] (fun i wr => ∃ k : Nat, k ≤ l.length ∧ i = .int .i64 k ∧ Hid (Upto (fun i s => Fresh (fun a b : Ef => a.dev = b.dev ∧ a.place = b.place) l s i) l k) ∧ Hid (Below w.heap.size w wr)) (fun i _ => l.length - (intOf i).toNat)
  case atStart => exact ⟨0, Nat.zero_le _, rfl, Lib.hid (upto_zero _ _), Lib.hid (Below.refl _ _)⟩
  case round =>
    obtain ⟨k, hk, rfl, HU, HW⟩ := hrel
    by_cases hlt : k < l.length
    · obtain ⟨x, hx⟩ : ∃ x, l[k]? = some x := ⟨_, List.getElem?_eq_getElem hlt⟩
      obtain ⟨b, off, hA, hb, hcell⟩ := row_at (HL.out.below HW.out).1 hx
      subst hA
      clear hcell hb
      have HX := Lib.hid hx
      have hk1 : (k : Int) < (l.length : Int) := by omega
      have hk0 : (0 : Int) ≤ (k : Int) := by omega
      clear hx
      go_wp2_with fail
      obtain ⟨wo, rfl⟩ : ∃ wo : World, wo = wr := ⟨_, rfl⟩
      go_loopw [13] (fun i wr => ∃ j : Nat, j ≤ k ∧ i = .int .i64 j ∧ Hid (FreshAt (fun a b : Ef => a.dev = b.dev ∧ a.place = b.place) l k j) ∧ Hid (Below w.heap.size w wr)) (fun i _ => l.length - (intOf i).toNat)
      case atStart => exact ⟨0, Nat.zero_le _, rfl, Lib.hid (freshAt_zero _ _ _), HW⟩
      case round =>
        clear HW
        obtain ⟨j, hj, rfl, HF, HW⟩ := hrel
        by_cases hjk : j < k
        · obtain ⟨b', off', hA, hb, hcell⟩ := row_at (HL.out.below HW.out).1 HX.out
          injection hA with hA
          injection hA with hA1 hA2 _
          subst hA1 hA2
          have y0 := hcell 0 _ rfl
          have y1 := hcell 1 _ rfl
          have y2 := hcell 2 _ rfl
          have y3 := hcell 3 _ rfl
          have y4 := hcell 4 _ rfl
          clear hcell hb
          obtain ⟨y, hy⟩ : ∃ y, l[j]? = some y := ⟨_, List.getElem?_eq_getElem (by omega)⟩
          obtain ⟨b', off', hA, hb, hcell⟩ := row_at (HL.out.below HW.out).1 hy
          injection hA with hA
          injection hA with hA1 hA2 _
          subst hA1 hA2
          have z0 := hcell 0 _ rfl
          have z1 := hcell 1 _ rfl
          have z2 := hcell 2 _ rfl
          have z3 := hcell 3 _ rfl
          have z4 := hcell 4 _ rfl
          simp only [Nat.add_zero] at y0 z0
          have HY := Lib.hid hy
          have hjl : (j : Int) < (l.length : Int) := by omega
          have hj0 : (0 : Int) ≤ (j : Int) := by omega
          have hjk1 : (j : Int) < (k : Int) := by omega
          clear hcell hy hb
          obtain ⟨xn, xd, xp, xt, xv, xcs⟩ := x
          obtain ⟨yn, yd, yp, yt, yv, ycs⟩ := y
          simp only at y0 z0 y1 z1 y2 z2 y3 z3 y4 z4
          obtain ⟨Ax, cx, ex, hcx, -⟩ := id (HL.out.2 _ (List.mem_of_getElem? HX.out))
          obtain ⟨Ay, cy, ey, hcy, -⟩ := id (HL.out.2 _ (List.mem_of_getElem? HY.out))
          simp only at ex ey
          subst ex ey
          go_upto_region 7 with fail
          go_still_tail 9, (by kernel_rfl)
          have HW1 := Lib.hid HW.out.drew
          change wpList _ _ _ _ _ wr.drew
          clear y0 z0 y1 z1 y2 z2 y3 z3 y4 z4 HW
          generalize wr.drew = wa at *
          go_wp2_with fail
          refine (efTwin_any _ _ _ _ _ _ _ _ _ _ _ _ _ _ _).mono ?_
          rintro e w1 ⟨rfl, hB⟩
          have HW2 := Lib.hid (HW1.out.trans (hB.mono HW1.out.size))
          clear hB HW1
          by_cases hxy : yd = xd ∧ yp = xp
          · have HNO := Lib.hid (show ¬ All (fun i s => Fresh (fun a b : Ef => a.dev = b.dev ∧ a.place = b.place) l s i) l from fun hp => not_fresh hjk HY.out hxy (hp k _ HX.out))
            rw [decide_eq_true hxy]
            clear hxy
            go_wp2_with fail
            go_ret
            exact tells_yes HNO.out HW2.out
          · rw [decide_eq_false hxy]
            have HE := Lib.hid hxy
            clear hxy
            go_wp2_with fail
            go_roundw
            case rel => exact ⟨j + 1, by omega, by go_num, Lib.hid (freshAt_step HF.out HX.out HY.out HE.out), HW2⟩
            case measure => simp [intOf]; omega
        · obtain rfl : j = k := by omega
          have HP := Lib.hid (upto_step HU.out HX.out (HF.out x HX.out))
          go_wp2_with fail
          go_roundw
          case rel => exact ⟨j + 1, by omega, by go_num, HP, HW⟩
          case measure => simp [intOf]; omega
    · have hkl : k = l.length := by omega
      have HA := Lib.hid (upto_all (by rw [← hkl]; exact HU.out))
      clear hkl
      have hk2 : ¬ (k : Int) < (l.length : Int) := by omega
      go_wp2_with fail
      go_ret
      exact tells_no (fun hn => hn HA.out) HW.out
end Go.Proofs.YtckbdnkonccmiaaDoor
namespace Go.Proofs.YtckbdnkonccmiaaDoor
open Go.RowKit
set_option maxHeartbeats 4000000 in
set_option maxRecDepth 100000 in
theorem times_any (w : World) (m : Mat) (vd vp vc ve : Value) (h : MatAt w m vd vp vc ve) :
    Calls Tryd.prog 23 #[m.val vd vp vc ve] w (Tells (timesP m) w) := by
  obtain ⟨r, wt, bk, cy, key, ds, ps, cs, es⟩ := m
  obtain ⟨Ad, cd, e, hcd, -⟩ := id h.1
  simp only at e
  subst e
  obtain ⟨Ap, cp, e, hcp, -⟩ := id h.2.1
  simp only at e
  subst e
  obtain ⟨Ac, cc, e, hcc, -⟩ := id h.2.2.1.1
  simp only at e
  subst e
  obtain ⟨Ae, ce, e, hce, -⟩ := id h.2.2.2.1
  simp only at e
  subst e
  have HL := Lib.hid h
  clear h
  unfold Mat.val
  simp only
  have HQ := Lib.hid ((Below.refl w.heap.size w).alloc (Nat.le_refl _) (.cells #[.int .i64 r, .int .i64 wt, .int .i64 bk, .int .i64 cy, .string key, .slice Ad ds.length cd, .slice Ap ps.length cp, .slice Ac cs.length cc, .slice Ae es.length ce] 27))
  go_enter Tryd.func23, Tryd.ntmps23
  go_wp2_with fail
  refine (mwithin64_any _ _ _ _).mono ?_
  rintro e w2 ⟨rfl, rfl⟩
  by_cases c1 : 0 ≤ r ∧ r ≤ 7
  case neg =>
    rw [decide_eq_false c1]
    have HNO : Hid (¬ timesP ⟨r, wt, bk, cy, key, ds, ps, cs, es⟩) := Lib.hid (fun hp => c1 hp.1)
    clear c1
    go_wp2_with fail
    go_ret
    exact tells_no HNO.out HQ.out
  rw [decide_eq_true c1]
  have C1 := Lib.hid c1
  clear c1
  go_wp2_with fail
  refine (mwithin64_any _ _ _ _).mono ?_
  rintro e w2 ⟨rfl, rfl⟩
  by_cases c2 : 1 ≤ wt ∧ wt ≤ 1000
  case neg =>
    rw [decide_eq_false c2]
    have HNO : Hid (¬ timesP ⟨r, wt, bk, cy, key, ds, ps, cs, es⟩) := Lib.hid (fun hp => c2 hp.2.1)
    clear c2
    go_wp2_with fail
    go_ret
    exact tells_no HNO.out HQ.out
  rw [decide_eq_true c2]
  have C2 := Lib.hid c2
  clear c2
  go_wp2_with fail
  refine (mwithin64_any _ _ _ _).mono ?_
  rintro e w2 ⟨rfl, rfl⟩
  by_cases c3 : 0 ≤ bk ∧ bk ≤ 1000
  case neg =>
    rw [decide_eq_false c3]
    have HNO : Hid (¬ timesP ⟨r, wt, bk, cy, key, ds, ps, cs, es⟩) := Lib.hid (fun hp => c3 hp.2.2.1)
    clear c3
    go_wp2_with fail
    go_ret
    exact tells_no HNO.out HQ.out
  rw [decide_eq_true c3]
  have C3 := Lib.hid c3
  clear c3
  go_wp2_with fail
  refine (mwithin64_any _ _ _ _).mono ?_
  rintro e w2 ⟨rfl, rfl⟩
  by_cases c4 : 1 ≤ cy ∧ cy ≤ 1000
  case neg =>
    rw [decide_eq_false c4]
    have HNO : Hid (¬ timesP ⟨r, wt, bk, cy, key, ds, ps, cs, es⟩) := Lib.hid (fun hp => c4 hp.2.2.2)
    clear c4
    go_wp2_with fail
    go_ret
    exact tells_no HNO.out HQ.out
  rw [decide_eq_true c4]
  have C4 := Lib.hid c4
  clear c4
  go_wp2_with fail
  go_ret
  exact tells_yes ⟨C1.out, C2.out, C3.out, C4.out⟩ HQ.out
set_option maxRecDepth 100000 in
theorem keyed_any (w : World) (s : ByteArray) (hs : s.size ≤ 1125899906842624) :
    Calls Tryd.prog 24 #[.string s] w fun e w' => e = .returned (.bool (keyB s)) ∧ w = w' := by
  obtain ⟨r, hr⟩ : ∃ r, r = keyB s := ⟨_, rfl⟩
  rw [← hr]
  have HB := Lib.hid hr
  clear hr
  by_cases h16 : ((s.size : Int) = 16)
  case neg =>
    have HR := Lib.hid (show r = false by rw [HB.out]; unfold keyB; rw [decide_eq_false (p := s.size = 16) (by omega)]; rfl)
    have h2 : ((s.size : Int) == 16) = false := by rw [beq_eq_false_iff_ne]; exact h16
    have h3 : ((s.size : Int) != 16) = true := by rw [bne, h2]; rfl
    clear h16
    go_enter Tryd.func24, Tryd.ntmps24
    go_wp2_with fail
    go_ret
    exact ⟨by rw [HR.out]; rfl, rfl⟩
  have H16 := Lib.hid h16
  have h2 : ((s.size : Int) == 16) = true := by simp [h16]
  have h3 : ((s.size : Int) != 16) = false := by rw [bne, h2]; rfl
  clear h16
  go_enter Tryd.func24, Tryd.ntmps24
  go_wp2_with fail
  clear h2 h3
  go_loopw [10] (fun i wr => ∃ k : Nat, k ≤ s.size ∧ i = .int .i64 k ∧ Hid (Upto (fun _ c => hexB c = true) s.data.toList k) ∧ Hid (w = wr)) (fun i _ => s.size - (intOf i).toNat)
  case atStart => exact ⟨0, Nat.zero_le _, rfl, Lib.hid (upto_zero _ _), Lib.hid rfl⟩
  case round =>
    obtain ⟨k, hk, rfl, HU, HW⟩ := hrel
    by_cases hlt : k < s.size
    · obtain ⟨c, hc⟩ := string_at hlt
      have hix := fun w => index_at (P := Tryd.prog) (t := 9) (by go_side) hc w
      have HC := Lib.hid hc
      have hk1 : (k : Int) < (s.size : Int) := by omega
      clear hc
      obtain ⟨n, hn, hcs⟩ := hex_cases c
      rw [← hn] at hix
      clear hn
      rcases hcs with ⟨hl, h1, hcs⟩ | ⟨hl, hcs⟩
      · have HL := Lib.hid hl
        clear hl
        rcases hcs with h2 | ⟨h2, h3, h4⟩
        · have g1 : ¬ n < 48 := by simp [h1]
          have g2 : ¬ 57 < n := by simp [h2]
          clear h1 h2
          go_wp2_with fail
          go_roundw
          case rel => exact ⟨k + 1, by omega, by go_num, Lib.hid (upto_step HU.out HC.out HL.out), HW⟩
          case measure => simp [intOf]; omega
        · have g1 : ¬ n < 48 := by simp [h1]
          have g2 : 57 < n := by simp [h2]
          have g3 : ¬ n < 97 := by simp [h3]
          have g4 : ¬ 102 < n := by simp [h4]
          clear h1 h2 h3 h4
          go_wp2_with fail
          go_roundw
          case rel => exact ⟨k + 1, by omega, by go_num, Lib.hid (upto_step HU.out HC.out HL.out), HW⟩
          case measure => simp [intOf]; omega
      · have HR := Lib.hid (show r = false by rw [HB.out]; unfold keyB; rw [all_no HC.out hl, Bool.and_false])
        clear hl
        rcases hcs with ⟨h1, h2⟩ | ⟨h1, h2, hcs⟩
        · have g1 : n < 48 := by simp [h1]
          have g2 : n < 97 := by simp [h2]
          clear h1 h2
          go_wp2_with fail
          go_ret
          exact ⟨by rw [HR.out]; rfl, HW.out⟩
        · rcases hcs with h3 | ⟨h3, h4⟩
          · have g1 : ¬ n < 48 := by simp [h1]
            have g2 : 57 < n := by simp [h2]
            have g3 : n < 97 := by simp [h3]
            clear h1 h2 h3
            go_wp2_with fail
            go_ret
            exact ⟨by rw [HR.out]; rfl, HW.out⟩
          · have g1 : ¬ n < 48 := by simp [h1]
            have g2 : 57 < n := by simp [h2]
            have g3 : ¬ n < 97 := by simp [h3]
            have g4 : 102 < n := by simp [h4]
            clear h1 h2 h3 h4
            go_wp2_with fail
            go_ret
            exact ⟨by rw [HR.out]; rfl, HW.out⟩
    · have hk2 : ¬ (k : Int) < (s.size : Int) := by omega
      have hks : k = s.size := by omega
      have HA := Lib.hid (all_yes (by rw [← hks]; exact HU.out))
      clear hks
      have HR := Lib.hid (show r = true by rw [HB.out]; unfold keyB; rw [HA.out, decide_eq_true (p := s.size = 16) (by have := H16.out; omega)]; rfl)
      go_wp2_with fail
      go_ret
      exact ⟨by rw [HR.out]; rfl, HW.out⟩
set_option maxHeartbeats 4000000 in
set_option maxRecDepth 100000 in
theorem picks_any (w : World) (l : List Int) (v : Value) (h : NumsAt w l v) (hl : l.length ≤ 1125899906842624) (most size : Int) (hs0 : 0 ≤ size) (hs1 : size ≤ 1125899906842624) :
    Calls Tryd.prog 49 #[v, .int .i64 most, .int .i64 size] w (Tells (someP l most size) w) := by
  obtain ⟨A, c, e, hc, -⟩ := id h
  subst e
  have HL := Lib.hid h
  clear h
  go_enter Tryd.func49, Tryd.ntmps49
  go_wp2_with fail
  refine (mwithin_any _ _ _ _).mono ?_
  rintro e w2 ⟨rfl, rfl⟩
  by_cases c1 : 1 ≤ (l.length : Int) ∧ (l.length : Int) ≤ most
  case neg =>
    rw [decide_eq_false c1]
    have HNO : Hid (¬ someP l most size) := Lib.hid (fun hp => c1 ⟨hp.1, hp.2.1⟩)
    clear c1
    go_wp2_with fail
    go_ret
    exact tells_no HNO.out (Below.refl _ _)
  rw [decide_eq_true c1]
  have C1 := Lib.hid c1
  clear c1
  go_wp2_with fail
  obtain ⟨wo, hwo⟩ : ∃ wo : World, wo = w := ⟨_, rfl⟩
  have HWO := Lib.hid hwo
  clear hwo
  go_loopw [16] (fun i wr => ∃ k : Nat, k ≤ l.length ∧ i = .int .i64 k ∧ Hid (Upto (fun _ x => 0 ≤ x ∧ x < size) l k) ∧ Hid (w = wr)) (fun i _ => l.length - (intOf i).toNat)
  case atStart => exact ⟨0, Nat.zero_le _, rfl, Lib.hid (upto_zero _ _), Lib.hid rfl⟩
  case round =>
    obtain ⟨k, hk, rfl, HU, HW⟩ := hrel
    by_cases hlt : k < l.length
    · obtain ⟨x, hx⟩ : ∃ x, l[k]? = some x := ⟨_, List.getElem?_eq_getElem hlt⟩
      obtain ⟨b, off, hA, hcell⟩ := one_at (w := wr) (by rw [← HW.out]; exact HL.out) hx
      subst hA
      have y0 := hcell _ rfl
      have HX := Lib.hid hx
      have hk1 : (k : Int) < (l.length : Int) := by omega
      have hk0 : (0 : Int) ≤ (k : Int) := by omega
      clear hx hcell
      go_wp2_with fail
      refine (mwithin_any _ _ _ _).mono ?_
      rintro e w2 ⟨rfl, rfl⟩
      by_cases c2 : 0 ≤ x ∧ x ≤ size - 1
      case neg =>
        rw [decide_eq_false c2]
        have HNO : Hid (¬ someP l most size) := Lib.hid (fun hp => c2 (by have := (hp.2.2 k x HX.out).1; omega))
        clear c2
        go_wp2_with fail
        go_ret
        exact tells_no HNO.out (by rw [HW.out]; exact Below.refl _ _)
      rw [decide_eq_true c2]
      have C2 := Lib.hid c2
      clear c2
      go_wp2_with fail
      go_roundw
      case rel => exact ⟨k + 1, by omega, by go_num, Lib.hid (upto_step HU.out HX.out ⟨C2.out.1, by have := C2.out.2; omega⟩), HW⟩
      case measure => simp [intOf]; omega
    · have hkl : k = l.length := by omega
      have HA := Lib.hid (upto_all (by rw [← hkl]; exact HU.out))
      clear hkl
      have hk2 : ¬ (k : Int) < (l.length : Int) := by omega
      go_wp2_with fail
      refine (twinsI_any wr l _ (by rw [← HW.out]; exact HL.out) hl).mono ?_
      rintro e w3 ⟨b, rfl, hb, hB⟩
      have HT := Lib.hid hb
      have HB := Lib.hid (show Below w.heap.size w w3 by rw [HW.out]; exact hB)
      clear hb hB
      have HS : Hid ((!b) = true ↔ someP l most size) := Lib.hid (by
        have h1 := HT.out
        have h2 := HA.out
        have h3 := C1.out
        constructor
        · intro hb
          have hb' : ¬ b = true := by cases b <;> simp at hb ⊢
          have h4 := fun n => hb' (h1.2 n)
          exact ⟨h3.1, h3.2, fun i y hy => ⟨h2 i y hy, (Classical.not_not.1 h4) i y hy⟩⟩
        · intro hp
          cases b with
          | false => rfl
          | true => exact absurd (fun i y hy => (hp.2.2 i y hy).2) (h1.1 rfl))
      go_wp2_with fail
      go_ret
      exact ⟨_, rfl, HS.out, HB.out⟩
end Go.Proofs.YtckbdnkonccmiaaDoor
namespace Go.Proofs.YtckbdnkonccmiaaDoor
open Go.RowKit
set_option maxHeartbeats 4000000 in
set_option maxRecDepth 100000 in
/-- the length apart: Right tests it ahead -/
theorem ldevices_any (w : World) (m : Mat) (vd vp vc ve : Value) (h : MatAt w m vd vp vc ve) (hm : MatSmall m) :
    Calls Tryd.prog 26 #[m.val vd vp vc ve] w (Tells (All (devP m.devs) m.devs) w) := by
  obtain ⟨r, wt, bk, cy, key, ds, ps, cs, es⟩ := m
  obtain ⟨Ad, cd, e, hcd, -⟩ := id h.1
  simp only at e
  subst e
  obtain ⟨Ap, cp, e, hcp, -⟩ := id h.2.1
  simp only at e
  subst e
  obtain ⟨Ac, cc, e, hcc, -⟩ := id h.2.2.1.1
  simp only at e
  subst e
  obtain ⟨Ae, ce, e, hce, -⟩ := id h.2.2.2.1
  simp only at e
  subst e
  have HL := Lib.hid h
  have hsd := hm.devs
  have hsp := hm.pts
  have hsc := hm.css
  have hse := hm.efs
  have HM := Lib.hid hm
  simp only at hsd hsp hsc hse
  clear h hm
  unfold Mat.val
  simp only
  go_enter Tryd.func26, Tryd.ntmps26
  obtain ⟨bx, hbx⟩ : ∃ bx : Array Value, bx = #[.int .i64 r, .int .i64 wt, .int .i64 bk, .int .i64 cy, .string key, .slice Ad ds.length cd, .slice Ap ps.length cp, .slice Ac cs.length cc, .slice Ae es.length ce] := ⟨_, rfl⟩
  have HQ : Hid (Below w.heap.size w (w.alloc (.cells bx 27)) ∧ Words.Blk (w.alloc (.cells bx 27)) w.heap.size 27 bx) := Lib.hid ⟨(Below.refl _ _).alloc (Nat.le_refl _) _, Words.Blk.new w _ _⟩
  have HBX := Lib.hid hbx
  rw [hbx] at HQ
  clear hbx
  go_wp2_with fail
  go_loopw [8] (fun i wr => ∃ k : Nat, k ≤ ds.length ∧ i = .int .i64 k ∧ Hid (Upto (fun _ d => (0 ≤ d.line ∧ d.line ≤ 3) ∧ (1 ≤ d.unit ∧ d.unit ≤ 247)) ds k) ∧ Hid (Below w.heap.size w wr ∧ Words.Blk wr w.heap.size 27 bx)) (fun i _ => ds.length - (intOf i).toNat)
  case atStart => exact ⟨0, Nat.zero_le _, rfl, Lib.hid (upto_zero _ _), Lib.hid (by have h := HQ.out; rw [HBX.out]; exact h)⟩
  case round =>
    clear HQ
    obtain ⟨k, hk, rfl, HU, HW⟩ := hrel
    by_cases hlt : k < ds.length
    · obtain ⟨x, hx⟩ : ∃ x, ds[k]? = some x := ⟨_, List.getElem?_eq_getElem hlt⟩
      obtain ⟨b, off, hA, hb, hcell⟩ := row_at (LawFrame.RowsAt.below HL.out.1 HW.out.1) hx
      subst hA
      have y0 := hcell 0 _ rfl
      have y1 := hcell 1 _ rfl
      have y2 := hcell 2 _ rfl
      simp only [Nat.add_zero] at y0
      have HX := Lib.hid hx
      have hk1 : (k : Int) < (ds.length : Int) := by omega
      have hk0 : (0 : Int) ≤ (k : Int) := by omega
      clear hx hcell hb
      obtain ⟨xn, xl, xu⟩ := x
      simp only at y0 y1 y2
      have HW1 : Hid (Below w.heap.size w (wr.alloc (.cells #[.string xn, .int .i64 xl, .int .i64 xu] 47)) ∧ Words.Blk (wr.alloc (.cells #[.string xn, .int .i64 xl, .int .i64 xu] 47)) w.heap.size 27 bx) := Lib.hid ⟨HW.out.1.alloc HW.out.1.size _, HW.out.2.alloc _⟩
      have HN : Hid (¬ ((0 ≤ xl ∧ xl ≤ 3) ∧ (1 ≤ xu ∧ xu ≤ 247)) → ¬ All (devP ds) ds) := Lib.hid (fun hn hp => hn ⟨(hp k _ HX.out).1, (hp k _ HX.out).2.1⟩)
      go_wp2_with fail
      refine (mwithin_any _ _ _ _).mono ?_
      rintro e w2 ⟨rfl, rfl⟩
      by_cases c1 : 0 ≤ xl ∧ xl ≤ 3
      case neg =>
        rw [decide_eq_false c1]
        have HNO := Lib.hid (HN.out (fun h => c1 h.1))
        clear c1
        go_wp2_with fail
        go_ret
        exact tells_no HNO.out HW1.out.1
      rw [decide_eq_true c1]
      have C1 := Lib.hid c1
      clear c1
      go_wp2_with fail
      refine (mwithin_any _ _ _ _).mono ?_
      rintro e w2 ⟨rfl, rfl⟩
      by_cases c2 : 1 ≤ xu ∧ xu ≤ 247
      case neg =>
        rw [decide_eq_false c2]
        have HNO := Lib.hid (HN.out (fun h => c2 h.2))
        clear c2
        go_wp2_with fail
        go_ret
        exact tells_no HNO.out HW1.out.1
      rw [decide_eq_true c2]
      have C2 := Lib.hid c2
      clear c2
      go_wp2_with fail
      go_roundw
      case rel => exact ⟨k + 1, by omega, by go_num, Lib.hid (upto_step HU.out HX.out ⟨C1.out, C2.out⟩), HW1⟩
      case measure => simp [intOf]; omega
    · have hkl : k = ds.length := by omega
      have HA := Lib.hid (upto_all (by rw [← hkl]; exact HU.out))
      clear hkl
      have hk2 : ¬ (k : Int) < (ds.length : Int) := by omega
      have z : wr.cell? ⟨w.heap.size, 5, none⟩ = some (.slice Ad ds.length cd) := by have := HW.out.2.cell 5; rw [HBX.out] at this; exact this
      go_wp2_with fail
      refine (twinsD_any wr ds _ (LawFrame.RowsAt.below HL.out.1 HW.out.1) hsd).mono ?_
      rintro e w3 ⟨b, rfl, hb, hB⟩
      have HB := Lib.hid (HW.out.1.trans (hB.mono HW.out.1.size))
      have HS : Hid ((!b) = true ↔ All (devP ds) ds) := Lib.hid (by
        have h2 := HA.out
        constructor
        · intro hn
          have hb' : ¬ b = true := by cases b <;> simp at hn ⊢
          have h4 := Classical.not_not.1 (fun n => hb' (hb.2 n))
          exact fun i y hy => ⟨(h2 i y hy).1, (h2 i y hy).2, h4 i y hy⟩
        · intro hp
          cases b with
          | false => rfl
          | true => exact absurd (fun i y hy => (hp i y hy).2.2) (hb.1 rfl))
      clear hb hB
      go_wp2_with fail
      go_ret
      exact ⟨_, rfl, HS.out, HB.out⟩
end Go.Proofs.YtckbdnkonccmiaaDoor
namespace Go.Proofs.YtckbdnkonccmiaaDoor
open Go.RowKit
set_option maxHeartbeats 4000000 in
set_option maxRecDepth 100000 in
/-- the length apart: Right tests it ahead -/
theorem lpoints_any (w : World) (m : Mat) (vd vp vc ve : Value) (h : MatAt w m vd vp vc ve) (hm : MatSmall m) :
    Calls Tryd.prog 27 #[m.val vd vp vc ve] w (Tells (All (ptP m.pts m.devs.length) m.pts) w) := by
  obtain ⟨r, wt, bk, cy, key, ds, ps, cs, es⟩ := m
  obtain ⟨Ad, cd, e, hcd, -⟩ := id h.1
  simp only at e
  subst e
  obtain ⟨Ap, cp, e, hcp, -⟩ := id h.2.1
  simp only at e
  subst e
  obtain ⟨Ac, cc, e, hcc, -⟩ := id h.2.2.1.1
  simp only at e
  subst e
  obtain ⟨Ae, ce, e, hce, -⟩ := id h.2.2.2.1
  simp only at e
  subst e
  have HL := Lib.hid h
  have hsd := hm.devs
  have hsp := hm.pts
  have hsc := hm.css
  have hse := hm.efs
  have HM := Lib.hid hm
  simp only at hsd hsp hsc hse
  clear h hm
  unfold Mat.val
  simp only
  go_enter Tryd.func27, Tryd.ntmps27
  obtain ⟨bx, hbx⟩ : ∃ bx : Array Value, bx = #[.int .i64 r, .int .i64 wt, .int .i64 bk, .int .i64 cy, .string key, .slice Ad ds.length cd, .slice Ap ps.length cp, .slice Ac cs.length cc, .slice Ae es.length ce] := ⟨_, rfl⟩
  have HQ : Hid (Below w.heap.size w (w.alloc (.cells bx 27)) ∧ Words.Blk (w.alloc (.cells bx 27)) w.heap.size 27 bx) := Lib.hid ⟨(Below.refl _ _).alloc (Nat.le_refl _) _, Words.Blk.new w _ _⟩
  have HBX := Lib.hid hbx
  rw [hbx] at HQ
  clear hbx
  go_wp2_with fail
  go_loopw [8] (fun i wr => ∃ k : Nat, k ≤ ps.length ∧ i = .int .i64 k ∧ Hid (Upto (fun _ p => (0 ≤ p.dev ∧ p.dev < (ds.length : Int)) ∧ (0 ≤ p.place ∧ p.place ≤ 255) ∧ (0 ≤ p.trip ∧ p.trip ≤ 1) ∧ (0 ≤ p.on ∧ p.on ≤ 1000) ∧ (0 ≤ p.off ∧ p.off ≤ 1000)) ps k) ∧ Hid (Below w.heap.size w wr ∧ Words.Blk wr w.heap.size 27 bx)) (fun i _ => ps.length - (intOf i).toNat)
  case atStart => exact ⟨0, Nat.zero_le _, rfl, Lib.hid (upto_zero _ _), Lib.hid (by have h := HQ.out; rw [HBX.out]; exact h)⟩
  case round =>
    clear HQ
    obtain ⟨k, hk, rfl, HU, HW⟩ := hrel
    by_cases hlt : k < ps.length
    · obtain ⟨x, hx⟩ : ∃ x, ps[k]? = some x := ⟨_, List.getElem?_eq_getElem hlt⟩
      have z5 : wr.cell? ⟨w.heap.size, 5, none⟩ = some (.slice Ad ds.length cd) := by have := HW.out.2.cell 5; rw [HBX.out] at this; exact this
      have hzl : w.heap.size < wr.heap.size := HW.out.2.lt
      obtain ⟨b, off, hA, hb, hcell⟩ := row_at (LawFrame.RowsAt.below HL.out.2.1 HW.out.1) hx
      subst hA
      have y0 := hcell 0 _ rfl
      have y1 := hcell 1 _ rfl
      have y2 := hcell 2 _ rfl
      have y3 := hcell 3 _ rfl
      have y4 := hcell 4 _ rfl
      have y5 := hcell 5 _ rfl
      simp only [Nat.add_zero] at y0
      have HX := Lib.hid hx
      have hk1 : (k : Int) < (ps.length : Int) := by omega
      have hk0 : (0 : Int) ≤ (k : Int) := by omega
      clear hx hcell hb
      obtain ⟨xn, xd, xp, xt, xo, xf⟩ := x
      simp only at y0 y1 y2 y3 y4 y5
      have HW1 : Hid (Below w.heap.size w (wr.alloc (.cells #[.string xn, .int .i64 xd, .int .i64 xp, .int .i64 xt, .int .i64 xo, .int .i64 xf] 45)) ∧ Words.Blk (wr.alloc (.cells #[.string xn, .int .i64 xd, .int .i64 xp, .int .i64 xt, .int .i64 xo, .int .i64 xf] 45)) w.heap.size 27 bx) := Lib.hid ⟨HW.out.1.alloc HW.out.1.size _, HW.out.2.alloc _⟩
      have z5' : (wr.alloc (.cells #[.string xn, .int .i64 xd, .int .i64 xp, .int .i64 xt, .int .i64 xo, .int .i64 xf] 45)).cell? ⟨w.heap.size, 5, none⟩ = some (.slice Ad ds.length cd) := by have := HW1.out.2.cell 5; rw [HBX.out] at this; exact this
      have HN : Hid (¬ ((0 ≤ xd ∧ xd < (ds.length : Int)) ∧ (0 ≤ xp ∧ xp ≤ 255) ∧ (0 ≤ xt ∧ xt ≤ 1) ∧ (0 ≤ xo ∧ xo ≤ 1000) ∧ (0 ≤ xf ∧ xf ≤ 1000)) → ¬ All (ptP ps ds.length) ps) := Lib.hid (fun hn hp => hn (by have h := hp k _ HX.out; exact ⟨h.1, h.2.1, h.2.2.1, h.2.2.2.1, h.2.2.2.2.1⟩))
      go_wp2_with fail
      refine (mwithin_any _ _ _ _).mono ?_
      rintro e w2 ⟨rfl, rfl⟩
      by_cases c1 : 0 ≤ xd ∧ xd ≤ (ds.length : Int) - 1
      case neg =>
        rw [decide_eq_false c1]
        have HNO := Lib.hid (HN.out (fun h => c1 (by have := h.1; omega)))
        clear c1
        go_wp2_with fail
        go_ret
        exact tells_no HNO.out HW1.out.1
      rw [decide_eq_true c1]
      have C1 := Lib.hid c1
      clear c1
      go_wp2_with fail
      refine (mwithin_any _ _ _ _).mono ?_
      rintro e w2 ⟨rfl, rfl⟩
      by_cases c2 : 0 ≤ xp ∧ xp ≤ 255
      case neg =>
        rw [decide_eq_false c2]
        have HNO := Lib.hid (HN.out (fun h => c2 h.2.1))
        clear c2
        go_wp2_with fail
        go_ret
        exact tells_no HNO.out HW1.out.1
      rw [decide_eq_true c2]
      have C2 := Lib.hid c2
      clear c2
      go_wp2_with fail
      refine (mwithin_any _ _ _ _).mono ?_
      rintro e w2 ⟨rfl, rfl⟩
      by_cases c3 : 0 ≤ xt ∧ xt ≤ 1
      case neg =>
        rw [decide_eq_false c3]
        have HNO := Lib.hid (HN.out (fun h => c3 h.2.2.1))
        clear c3
        go_wp2_with fail
        go_ret
        exact tells_no HNO.out HW1.out.1
      rw [decide_eq_true c3]
      have C3 := Lib.hid c3
      clear c3
      go_wp2_with fail
      refine (mwithin64_any _ _ _ _).mono ?_
      rintro e w2 ⟨rfl, rfl⟩
      by_cases c4 : 0 ≤ xo ∧ xo ≤ 1000
      case neg =>
        rw [decide_eq_false c4]
        have HNO := Lib.hid (HN.out (fun h => c4 h.2.2.2.1))
        clear c4
        go_wp2_with fail
        go_ret
        exact tells_no HNO.out HW1.out.1
      rw [decide_eq_true c4]
      have C4 := Lib.hid c4
      clear c4
      go_wp2_with fail
      refine (mwithin64_any _ _ _ _).mono ?_
      rintro e w2 ⟨rfl, rfl⟩
      by_cases c5 : 0 ≤ xf ∧ xf ≤ 1000
      case neg =>
        rw [decide_eq_false c5]
        have HNO := Lib.hid (HN.out (fun h => c5 h.2.2.2.2))
        clear c5
        go_wp2_with fail
        go_ret
        exact tells_no HNO.out HW1.out.1
      rw [decide_eq_true c5]
      have C5 := Lib.hid c5
      clear c5
      go_wp2_with fail
      go_roundw
      case rel => exact ⟨k + 1, by omega, by go_num, Lib.hid (upto_step HU.out HX.out ⟨⟨C1.out.1, (by have := C1.out.2; omega : xd < (ds.length : Int))⟩, C2.out, C3.out, C4.out, C5.out⟩), HW1⟩
      case measure => simp [intOf]; omega
    · have hkl : k = ps.length := by omega
      have HA := Lib.hid (upto_all (by rw [← hkl]; exact HU.out))
      clear hkl
      have hk2 : ¬ (k : Int) < (ps.length : Int) := by omega
      have z : wr.cell? ⟨w.heap.size, 6, none⟩ = some (.slice Ap ps.length cp) := by have := HW.out.2.cell 6; rw [HBX.out] at this; exact this
      go_wp2_with fail
      refine (twinsP_any wr ps _ (LawFrame.RowsAt.below HL.out.2.1 HW.out.1) hsp).mono ?_
      rintro e w3 ⟨b, rfl, hb, hB⟩
      have HB := Lib.hid (HW.out.1.trans (hB.mono HW.out.1.size))
      have HS : Hid ((!b) = true ↔ All (ptP ps ds.length) ps) := Lib.hid (by
        have h2 := HA.out
        constructor
        · intro hn
          have hb' : ¬ b = true := by cases b <;> simp at hn ⊢
          have h4 := Classical.not_not.1 (fun n => hb' (hb.2 n))
          exact fun i y hy => by have h := h2 i y hy; exact ⟨h.1, h.2.1, h.2.2.1, h.2.2.2.1, h.2.2.2.2, h4 i y hy⟩
        · intro hp
          cases b with
          | false => rfl
          | true => exact absurd (fun i y hy => (hp i y hy).2.2.2.2.2) (hb.1 rfl))
      clear hb hB
      go_wp2_with fail
      go_ret
      exact ⟨_, rfl, HS.out, HB.out⟩
end Go.Proofs.YtckbdnkonccmiaaDoor
namespace Go.Proofs.YtckbdnkonccmiaaDoor
open Go.RowKit
set_option maxHeartbeats 4000000 in
set_option maxRecDepth 100000 in
/-- the length apart: Right tests it ahead -/
theorem lcauses_any (w : World) (m : Mat) (vd vp vc ve : Value) (h : MatAt w m vd vp vc ve) (hm : MatSmall m) :
    Calls Tryd.prog 28 #[m.val vd vp vc ve] w (Tells (All (csP m.pts.length) m.css) w) := by
  obtain ⟨r, wt, bk, cy, key, ds, ps, cs, es⟩ := m
  obtain ⟨Ad, cd, e, hcd, -⟩ := id h.1
  simp only at e
  subst e
  obtain ⟨Ap, cp, e, hcp, -⟩ := id h.2.1
  simp only at e
  subst e
  obtain ⟨Ac, cc, e, hcc, -⟩ := id h.2.2.1.1
  simp only at e
  subst e
  obtain ⟨Ae, ce, e, hce, -⟩ := id h.2.2.2.1
  simp only at e
  subst e
  have HL := Lib.hid h
  have hsd := hm.devs
  have hsp := hm.pts
  have hsc := hm.css
  have hse := hm.efs
  have HM := Lib.hid hm
  simp only at hsd hsp hsc hse
  clear h hm
  unfold Mat.val
  simp only
  go_enter Tryd.func28, Tryd.ntmps28
  obtain ⟨bx, hbx⟩ : ∃ bx : Array Value, bx = #[.int .i64 r, .int .i64 wt, .int .i64 bk, .int .i64 cy, .string key, .slice Ad ds.length cd, .slice Ap ps.length cp, .slice Ac cs.length cc, .slice Ae es.length ce] := ⟨_, rfl⟩
  have HQ : Hid (Below w.heap.size w (w.alloc (.cells bx 27)) ∧ Words.Blk (w.alloc (.cells bx 27)) w.heap.size 27 bx) := Lib.hid ⟨(Below.refl _ _).alloc (Nat.le_refl _) _, Words.Blk.new w _ _⟩
  have HBX := Lib.hid hbx
  rw [hbx] at HQ
  clear hbx
  go_wp2_with fail
  go_loopw [8] (fun i wr => ∃ k : Nat, k ≤ cs.length ∧ i = .int .i64 k ∧ Hid (Upto (csP ps.length) cs k) ∧ Hid (Below w.heap.size w wr ∧ Words.Blk wr w.heap.size 27 bx)) (fun i _ => cs.length - (intOf i).toNat)
  case atStart => exact ⟨0, Nat.zero_le _, rfl, Lib.hid (upto_zero _ _), Lib.hid (by have h := HQ.out; rw [HBX.out]; exact h)⟩
  case round =>
    clear HQ
    obtain ⟨k, hk, rfl, HU, HW⟩ := hrel
    by_cases hlt : k < cs.length
    · obtain ⟨x, hx⟩ : ∃ x, cs[k]? = some x := ⟨_, List.getElem?_eq_getElem hlt⟩
      have hzl : w.heap.size < wr.heap.size := HW.out.2.lt
      obtain ⟨b, off, hA, hb, hcell⟩ := row_at (CssAt.below HL.out.2.2.1 HW.out.1).1 hx
      subst hA
      have y0 := hcell 0 _ rfl
      have y1 := hcell 1 _ rfl
      have y2 := hcell 2 _ rfl
      have y3 := hcell 3 _ rfl
      have y4 := hcell 4 _ rfl
      simp only [Nat.add_zero] at y0
      have HX := Lib.hid hx
      have hk1 : (k : Int) < (cs.length : Int) := by omega
      have hk0 : (0 : Int) ≤ (k : Int) := by omega
      clear hx hcell hb
      obtain ⟨xn, xv, xl, xm, xs, xp⟩ := x
      simp only at y0 y1 y2 y3 y4
      have HPT := Lib.hid (HL.out.2.2.1.2 _ (List.mem_of_getElem? HX.out))
      have HPL := Lib.hid (HM.out.cpts _ (List.mem_of_getElem? HX.out))
      obtain ⟨Ai, ci, e, hci, -⟩ := id HPT.out
      simp only at e
      subst e
      have HW1 : Hid (Below w.heap.size w (wr.alloc (.cells #[.string xn, .int .i64 xv, .int .i64 xl, .int .i64 xm, .slice Ai xp.length ci] 43)) ∧ Words.Blk (wr.alloc (.cells #[.string xn, .int .i64 xv, .int .i64 xl, .int .i64 xm, .slice Ai xp.length ci] 43)) w.heap.size 27 bx) := Lib.hid ⟨HW.out.1.alloc HW.out.1.size _, HW.out.2.alloc _⟩
      have z6 : wr.cell? ⟨w.heap.size, 6, none⟩ = some (.slice Ap ps.length cp) := by have := HW.out.2.cell 6; rw [HBX.out] at this; exact this
      have z6' : (wr.alloc (.cells #[.string xn, .int .i64 xv, .int .i64 xl, .int .i64 xm, .slice Ai xp.length ci] 43)).cell? ⟨w.heap.size, 6, none⟩ = some (.slice Ap ps.length cp) := by have := HW1.out.2.cell 6; rw [HBX.out] at this; exact this
      have HN : Hid (¬ csP ps.length k ⟨xn, xv, xl, xm, .slice Ai xp.length ci, xp⟩ → ¬ All (csP ps.length) cs) := Lib.hid (fun hn hp => hn (hp k _ HX.out))
      go_wp2_with fail
      refine (picks_any _ xp _ (NumsAt.below HPT.out HW1.out.1) HPL.out 4 ps.length (by omega) (by omega)).mono ?_
      rintro e w1 ⟨b1, rfl, hb1, hB⟩
      have HW2 : Hid (Below w.heap.size w w1 ∧ Words.Blk w1 w.heap.size 27 bx) := Lib.hid ⟨HW1.out.1.trans (hB.mono HW1.out.1.size), HW1.out.2.below hB HW1.out.2.lt⟩
      obtain ⟨g, hg⟩ : ∃ g, g = wr.heap.size := ⟨_, rfl⟩
      have HG : Hid (Words.Blk w1 g 43 #[.string xn, .int .i64 xv, .int .i64 xl, .int .i64 xm, .slice Ai xp.length ci]) := Lib.hid (by rw [hg]; exact (Words.Blk.new wr _ _).below hB (by simp))
      rw [← hg]
      clear z6 z6' y0 y1 y2 y3 y4 hB HW hg HW1 hzl
      have z1 : w1.cell? ⟨g, 1, none⟩ = some (.int .i64 xv) := HG.out.cell 1
      have z2 : w1.cell? ⟨g, 2, none⟩ = some (.int .i64 xl) := HG.out.cell 2
      have z3 : w1.cell? ⟨g, 3, none⟩ = some (.int .i64 xm) := HG.out.cell 3
      have z4 : w1.cell? ⟨g, 4, none⟩ = some (.slice Ai xp.length ci) := HG.out.cell 4
      have HC := Lib.hid hb1
      clear hb1
      cases b1 with
      | false =>
        have HNO := Lib.hid (HN.out (fun hp => by have := HC.out.2 hp.1; cases this))
        go_wp2_with fail
        go_ret
        exact tells_no HNO.out HW2.out.1
      | true =>
      have C0 := Lib.hid (HC.out.1 rfl)
      clear HC
      go_wp2_with fail
      refine (mwithin_any _ _ _ _).mono ?_
      rintro e w2 ⟨rfl, rfl⟩
      by_cases c1 : 1 ≤ xv ∧ xv ≤ (xp.length : Int)
      case neg =>
        rw [decide_eq_false c1]
        have HNO := Lib.hid (HN.out (fun h => c1 h.2.1))
        clear c1
        go_wp2_with fail
        go_ret
        exact tells_no HNO.out HW2.out.1
      rw [decide_eq_true c1]
      have C1 := Lib.hid c1
      clear c1
      go_wp2_with fail
      refine (mwithin_any _ _ _ _).mono ?_
      rintro e w2 ⟨rfl, rfl⟩
      by_cases c2 : 1 ≤ xl ∧ xl ≤ 6
      case neg =>
        rw [decide_eq_false c2]
        have HNO := Lib.hid (HN.out (fun h => c2 h.2.2.1))
        clear c2
        go_wp2_with fail
        go_ret
        exact tells_no HNO.out HW2.out.1
      rw [decide_eq_true c2]
      have C2 := Lib.hid c2
      clear c2
      go_wp2_with fail
      refine (mwithin64_any _ _ _ _).mono ?_
      rintro e w2 ⟨rfl, rfl⟩
      by_cases c3 : 0 ≤ xm ∧ xm ≤ 100000
      case neg =>
        rw [decide_eq_false c3]
        have HNO := Lib.hid (HN.out (fun h => c3 h.2.2.2))
        clear c3
        go_wp2_with fail
        go_ret
        exact tells_no HNO.out HW2.out.1
      rw [decide_eq_true c3]
      have C3 := Lib.hid c3
      clear c3
      go_wp2_with fail
      go_roundw
      case rel => exact ⟨k + 1, by omega, by go_num, Lib.hid (upto_step HU.out HX.out ⟨C0.out, C1.out, C2.out, C3.out⟩), HW2⟩
      case measure => simp [intOf]; omega
    · have hkl : k = cs.length := by omega
      have HA := Lib.hid (upto_all (by rw [← hkl]; exact HU.out))
      clear hkl
      have hk2 : ¬ (k : Int) < (cs.length : Int) := by omega
      go_wp2_with fail
      go_ret
      exact tells_yes HA.out HW.out.1
end Go.Proofs.YtckbdnkonccmiaaDoor
namespace Go.Proofs.YtckbdnkonccmiaaDoor
open Go.RowKit
set_option maxHeartbeats 4000000 in
set_option maxRecDepth 100000 in
/-- the length apart: Right tests it ahead -/
theorem leffects_any (w : World) (m : Mat) (vd vp vc ve : Value) (h : MatAt w m vd vp vc ve) (hm : MatSmall m) :
    Calls Tryd.prog 29 #[m.val vd vp vc ve] w (Tells (All (efP m.efs m.devs.length m.css.length) m.efs) w) := by
  obtain ⟨r, wt, bk, cy, key, ds, ps, cs, es⟩ := m
  obtain ⟨Ad, cd, e, hcd, -⟩ := id h.1
  simp only at e
  subst e
  obtain ⟨Ap, cp, e, hcp, -⟩ := id h.2.1
  simp only at e
  subst e
  obtain ⟨Ac, cc, e, hcc, -⟩ := id h.2.2.1.1
  simp only at e
  subst e
  obtain ⟨Ae, ce, e, hce, -⟩ := id h.2.2.2.1
  simp only at e
  subst e
  have HL := Lib.hid h
  have hsd := hm.devs
  have hsp := hm.pts
  have hsc := hm.css
  have hse := hm.efs
  have HM := Lib.hid hm
  simp only at hsd hsp hsc hse
  clear h hm
  unfold Mat.val
  simp only
  go_enter Tryd.func29, Tryd.ntmps29
  obtain ⟨bx, hbx⟩ : ∃ bx : Array Value, bx = #[.int .i64 r, .int .i64 wt, .int .i64 bk, .int .i64 cy, .string key, .slice Ad ds.length cd, .slice Ap ps.length cp, .slice Ac cs.length cc, .slice Ae es.length ce] := ⟨_, rfl⟩
  have HQ : Hid (Below w.heap.size w (w.alloc (.cells bx 27)) ∧ Words.Blk (w.alloc (.cells bx 27)) w.heap.size 27 bx) := Lib.hid ⟨(Below.refl _ _).alloc (Nat.le_refl _) _, Words.Blk.new w _ _⟩
  have HBX := Lib.hid hbx
  rw [hbx] at HQ
  clear hbx
  go_wp2_with fail
  go_loopw [8] (fun i wr => ∃ k : Nat, k ≤ es.length ∧ i = .int .i64 k ∧ Hid (Upto (fun _ e => (0 ≤ e.dev ∧ e.dev < (ds.length : Int)) ∧ (0 ≤ e.place ∧ e.place ≤ 255) ∧ (0 ≤ e.safe ∧ e.safe ≤ 1) ∧ someP e.cs 8 cs.length) es k) ∧ Hid (Below w.heap.size w wr ∧ Words.Blk wr w.heap.size 27 bx)) (fun i _ => es.length - (intOf i).toNat)
  case atStart => exact ⟨0, Nat.zero_le _, rfl, Lib.hid (upto_zero _ _), Lib.hid (by have h := HQ.out; rw [HBX.out]; exact h)⟩
  case round =>
    clear HQ
    obtain ⟨k, hk, rfl, HU, HW⟩ := hrel
    by_cases hlt : k < es.length
    · obtain ⟨x, hx⟩ : ∃ x, es[k]? = some x := ⟨_, List.getElem?_eq_getElem hlt⟩
      have hzl : w.heap.size < wr.heap.size := HW.out.2.lt
      obtain ⟨b, off, hA, hb, hcell⟩ := row_at (EfsAt.below HL.out.2.2.2 HW.out.1).1 hx
      subst hA
      have y0 := hcell 0 _ rfl
      have y1 := hcell 1 _ rfl
      have y2 := hcell 2 _ rfl
      have y3 := hcell 3 _ rfl
      have y4 := hcell 4 _ rfl
      simp only [Nat.add_zero] at y0
      have HX := Lib.hid hx
      have hk1 : (k : Int) < (es.length : Int) := by omega
      have hk0 : (0 : Int) ≤ (k : Int) := by omega
      clear hx hcell hb
      obtain ⟨xn, xd, xp, xt, xs, xc⟩ := x
      simp only at y0 y1 y2 y3 y4
      have HPT := Lib.hid (HL.out.2.2.2.2 _ (List.mem_of_getElem? HX.out))
      have HPL := Lib.hid (HM.out.ecs _ (List.mem_of_getElem? HX.out))
      obtain ⟨Ai, ci, e, hci, -⟩ := id HPT.out
      simp only at e
      subst e
      have HW1 : Hid (Below w.heap.size w (wr.alloc (.cells #[.string xn, .int .i64 xd, .int .i64 xp, .int .i64 xt, .slice Ai xc.length ci] 54)) ∧ Words.Blk (wr.alloc (.cells #[.string xn, .int .i64 xd, .int .i64 xp, .int .i64 xt, .slice Ai xc.length ci] 54)) w.heap.size 27 bx) := Lib.hid ⟨HW.out.1.alloc HW.out.1.size _, HW.out.2.alloc _⟩
      have HBE : Hid (Words.Blk (wr.alloc (.cells #[.string xn, .int .i64 xd, .int .i64 xp, .int .i64 xt, .slice Ai xc.length ci] 54)) wr.heap.size 54 #[.string xn, .int .i64 xd, .int .i64 xp, .int .i64 xt, .slice Ai xc.length ci]) := Lib.hid (Words.Blk.new wr _ _)
      have z5 : wr.cell? ⟨w.heap.size, 5, none⟩ = some (.slice Ad ds.length cd) := by have := HW.out.2.cell 5; rw [HBX.out] at this; exact this
      have z5' : (wr.alloc (.cells #[.string xn, .int .i64 xd, .int .i64 xp, .int .i64 xt, .slice Ai xc.length ci] 54)).cell? ⟨w.heap.size, 5, none⟩ = some (.slice Ad ds.length cd) := by have := HW1.out.2.cell 5; rw [HBX.out] at this; exact this
      have z7 : wr.cell? ⟨w.heap.size, 7, none⟩ = some (.slice Ac cs.length cc) := by have := HW.out.2.cell 7; rw [HBX.out] at this; exact this
      have z7' : (wr.alloc (.cells #[.string xn, .int .i64 xd, .int .i64 xp, .int .i64 xt, .slice Ai xc.length ci] 54)).cell? ⟨w.heap.size, 7, none⟩ = some (.slice Ac cs.length cc) := by have := HW1.out.2.cell 7; rw [HBX.out] at this; exact this
      have HN : Hid (¬ ((0 ≤ xd ∧ xd < (ds.length : Int)) ∧ (0 ≤ xp ∧ xp ≤ 255) ∧ (0 ≤ xt ∧ xt ≤ 1) ∧ someP xc 8 cs.length) → ¬ All (efP es ds.length cs.length) es) := Lib.hid (fun hn hp => hn (by have h := hp k _ HX.out; exact ⟨h.1, h.2.1, h.2.2.1, h.2.2.2.1⟩))
      go_wp2_with fail
      refine (mwithin_any _ _ _ _).mono ?_
      rintro e w2 ⟨rfl, rfl⟩
      by_cases c1 : 0 ≤ xd ∧ xd ≤ (ds.length : Int) - 1
      case neg =>
        rw [decide_eq_false c1]
        have HNO := Lib.hid (HN.out (fun h => c1 (by have := h.1; omega)))
        clear c1
        go_wp2_with fail
        go_ret
        exact tells_no HNO.out HW1.out.1
      rw [decide_eq_true c1]
      have C1 := Lib.hid c1
      clear c1
      go_wp2_with fail
      refine (mwithin_any _ _ _ _).mono ?_
      rintro e w2 ⟨rfl, rfl⟩
      by_cases c2 : 0 ≤ xp ∧ xp ≤ 255
      case neg =>
        rw [decide_eq_false c2]
        have HNO := Lib.hid (HN.out (fun h => c2 h.2.1))
        clear c2
        go_wp2_with fail
        go_ret
        exact tells_no HNO.out HW1.out.1
      rw [decide_eq_true c2]
      have C2 := Lib.hid c2
      clear c2
      go_wp2_with fail
      refine (mwithin_any _ _ _ _).mono ?_
      rintro e w2 ⟨rfl, rfl⟩
      by_cases c3 : 0 ≤ xt ∧ xt ≤ 1
      case neg =>
        rw [decide_eq_false c3]
        have HNO := Lib.hid (HN.out (fun h => c3 h.2.2.1))
        clear c3
        go_wp2_with fail
        go_ret
        exact tells_no HNO.out HW1.out.1
      rw [decide_eq_true c3]
      have C3 := Lib.hid c3
      clear c3
      go_wp2_with fail
      refine (picks_any _ xc _ (NumsAt.below HPT.out HW1.out.1) HPL.out 8 cs.length (by omega) (by omega)).mono ?_
      rintro e w1 ⟨b1, rfl, hb1, hB⟩
      have HW2 : Hid (Below w.heap.size w w1 ∧ Words.Blk w1 w.heap.size 27 bx) := Lib.hid ⟨HW1.out.1.trans (hB.mono HW1.out.1.size), HW1.out.2.below hB HW1.out.2.lt⟩
      clear z5 z5' z7 z7' y0 y1 y2 y3 y4 hB HW hzl
      have HC := Lib.hid hb1
      clear hb1
      cases b1 with
      | false =>
        have HNO := Lib.hid (HN.out (fun hp => by have := HC.out.2 hp.2.2.2; cases this))
        go_wp2_with fail
        go_ret
        exact tells_no HNO.out HW2.out.1
      | true =>
      have C4 := Lib.hid (HC.out.1 rfl)
      clear HC
      go_wp2_with fail
      go_roundw
      case rel => exact ⟨k + 1, by omega, by go_num, Lib.hid (upto_step HU.out HX.out ⟨⟨C1.out.1, (by have := C1.out.2; omega : xd < (ds.length : Int))⟩, C2.out, C3.out, C4.out⟩), HW2⟩
      case measure => simp [intOf]; omega
    · have hkl : k = es.length := by omega
      have HA := Lib.hid (upto_all (by rw [← hkl]; exact HU.out))
      clear hkl
      have hk2 : ¬ (k : Int) < (es.length : Int) := by omega
      have z : wr.cell? ⟨w.heap.size, 8, none⟩ = some (.slice Ae es.length ce) := by have := HW.out.2.cell 8; rw [HBX.out] at this; exact this
      go_wp2_with fail
      refine (twinsE_any wr es _ (EfsAt.below HL.out.2.2.2 HW.out.1) hse).mono ?_
      rintro e w3 ⟨b, rfl, hb, hB⟩
      have HB := Lib.hid (HW.out.1.trans (hB.mono HW.out.1.size))
      have HS : Hid ((!b) = true ↔ All (efP es ds.length cs.length) es) := Lib.hid (by
        have h2 := HA.out
        constructor
        · intro hn
          have hb' : ¬ b = true := by cases b <;> simp at hn ⊢
          have h4 := Classical.not_not.1 (fun n => hb' (hb.2 n))
          exact fun i y hy => by have h := h2 i y hy; exact ⟨h.1, h.2.1, h.2.2.1, h.2.2.2, h4 i y hy⟩
        · intro hp
          cases b with
          | false => rfl
          | true => exact absurd (fun i y hy => (hp i y hy).2.2.2.2) (hb.1 rfl))
      clear hb hB
      go_wp2_with fail
      go_ret
      exact ⟨_, rfl, HS.out, HB.out⟩
end Go.Proofs.YtckbdnkonccmiaaDoor
namespace Go.Proofs.YtckbdnkonccmiaaDoor
open Go.RowKit
theorem NamesIs.box {W0 wr : World} {g n : Nat} {bx : Array Value} {l : List ByteArray} {vo : Value} (h : NamesIs W0 g bx l n vo wr) (ob : Obj) : NamesIs W0 g bx l n vo (wr.alloc ob) :=
  ⟨h.1, h.2.1.alloc _, h.2.2.1.alloc h.2.2.1.size _, h.2.2.2.alloc _⟩
set_option maxHeartbeats 4000000 in
set_option maxRecDepth 100000 in
theorem named_any (w : World) (m : Mat) (vd vp vc ve : Value) (h : MatAt w m vd vp vc ve) (hm : m.devs.length + m.pts.length + m.css.length + m.efs.length ≤ 1000) (hns : ∀ s ∈ m.names, s.size ≤ 1125899906842624) :
    Calls Tryd.prog 25 #[m.val vd vp vc ve] w (Tells (namesP m.names) w) := by
  have HNS := Lib.hid hns
  clear hns
  obtain ⟨i0, hi0, hz0, hz1, hz2⟩ := string_parts
  obtain ⟨r, wt, bk, cy, key, ds, ps, cs, es⟩ := m
  obtain ⟨Ad, cd, e, hcd, -⟩ := id h.1
  simp only at e
  subst e
  obtain ⟨Ap, cp, e, hcp, -⟩ := id h.2.1
  simp only at e
  subst e
  obtain ⟨Ac, cc, e, hcc, -⟩ := id h.2.2.1.1
  simp only at e
  subst e
  obtain ⟨Ae, ce, e, hce, -⟩ := id h.2.2.2.1
  simp only at e
  subst e
  have HL := Lib.hid h
  simp only at hm
  clear h
  unfold Mat.val
  simp only
  go_enter Tryd.func25, Tryd.ntmps25
  obtain ⟨bx, hbx⟩ : ∃ bx : Array Value, bx = #[.int .i64 r, .int .i64 wt, .int .i64 bk, .int .i64 cy, .string key, .slice Ad ds.length cd, .slice Ap ps.length cp, .slice Ac cs.length cc, .slice Ae es.length ce] := ⟨_, rfl⟩
  have HBX := Lib.hid hbx
  have HI : Hid (NamesIs w w.heap.size bx [] 0 (.slice none 0 0) (w.alloc (.cells bx 27))) := Lib.hid ⟨rfl, World.ownsRow_nil _ _ _ _, (Below.refl _ _).alloc (Nat.le_refl _) _, Words.Blk.new w _ _⟩
  rw [hbx] at HI
  clear hbx
  have HI0 := HI
  clear HI
  go_wp2_with fail
  have z5 : True := trivial
  clear z5
  go_loopw [3, 17] (fun o i wr => ∃ k n : Nat, k ≤ ds.length ∧ i = .int .i64 k ∧ Hid (NamesIs w w.heap.size bx (([] : List ByteArray) ++ (ds.take k).map (·.name)) n o wr)) (fun _ i _ => ds.length - (intOf i).toNat)
  case atStart => exact ⟨0, 0, Nat.zero_le _, rfl, Lib.hid (by have h := HI0.out; rw [HBX.out]; exact h)⟩
  case round =>
    clear HI0
    obtain ⟨k, n, hk, rfl, HI⟩ := hrel
    have hn : n ≤ ds.length := by have := HI.out.1; simp at this; omega
    have hk0 : (0 : Int) ≤ (k : Int) := by omega
    by_cases hlt : k < ds.length
    · obtain ⟨x, hx⟩ : ∃ x, ds[k]? = some x := ⟨_, List.getElem?_eq_getElem hlt⟩
      obtain ⟨b, off, hA, hb, hcell⟩ := row_at (LawFrame.RowsAt.below HL.out.1 HI.out.2.2.1) hx
      subst hA
      have y0 := hcell 0 _ rfl
      have y1 := hcell 1 _ rfl
      have y2 := hcell 2 _ rfl
      simp only [Nat.add_zero] at y0
      have HX := Lib.hid hx
      have hk1 : (k : Int) < (ds.length : Int) := by omega
      have hwr := HI.out.2.2.1.size
      clear hcell hx hb
      obtain ⟨n0, n1, n2⟩ := x
      simp only at y0 y1 y2
      have HO := Lib.hid (one_str n0)
      have HIb := Lib.hid (HI.out.box (.cells #[.string n0, .int .i64 n1, .int .i64 n2] 47))
      go_wp2_with (at_builtin; refine Words.wpList_append_any _ rfl (.tmp 21) (.tmp 24) _ rfl w.heap.size 9 i0 _ 1 16 Tryd.underlying48 hi0 hz0 hz1 hz2 rfl (by omega) u3 n _ rfl (HIb.out.2.1.alloc _) (wr.heap.size + 2) (some ⟨wr.heap.size + 1, 0, none⟩) 1 1 (sC n0) rfl (reads_str _ _ (by simp) n0 _) HO.out (by simp only [maxLen]; omega) (by omega) (by simp; omega) ?_; intro v' w2 ho hg hat; have HI2 := Lib.hid (HIb.out.app ho hg (take_next (·.name) _ _ HX.out)); clear ho hg hat HI HIb)
      go_roundw
      case rel => exact ⟨k + 1, n + 1, by omega, by go_num, HI2⟩
      case measure => simp [intOf]; omega
    · have HI0 : Hid (NamesIs w w.heap.size bx (([] : List ByteArray) ++ ds.map (·.name) ++ ([].take 0).map (fun x : Dev => x.name)) n u3 wr) := Lib.hid (by have h := HI.out; rw [List.take_of_length_le (by omega)] at h; simpa using h)
      have hk2 : ¬ (k : Int) < (ds.length : Int) := by omega
      clear HI
      have z : wr.cell? ⟨w.heap.size, 6, none⟩ = some (.slice Ap ps.length cp) := by have := HI0.out.2.2.2.cell 6; rw [HBX.out] at this; exact this
      go_wp2_with fail
      clear z
      have z6 : True := trivial
      clear z6
      go_loopw [3, 30] (fun o i wr => ∃ k n : Nat, k ≤ ps.length ∧ i = .int .i64 k ∧ Hid (NamesIs w w.heap.size bx ((([] : List ByteArray) ++ ds.map (·.name)) ++ (ps.take k).map (·.name)) n o wr)) (fun _ i _ => ps.length - (intOf i).toNat)
      case atStart => exact ⟨0, n, Nat.zero_le _, rfl, HI0⟩
      case round =>
        clear HI0
        obtain ⟨k, n, hk, rfl, HI⟩ := hrel
        have hn : n ≤ ds.length + ps.length := by have := HI.out.1; simp at this; omega
        have hk0 : (0 : Int) ≤ (k : Int) := by omega
        by_cases hlt : k < ps.length
        · obtain ⟨x, hx⟩ : ∃ x, ps[k]? = some x := ⟨_, List.getElem?_eq_getElem hlt⟩
          obtain ⟨b, off, hA, hb, hcell⟩ := row_at (LawFrame.RowsAt.below HL.out.2.1 HI.out.2.2.1) hx
          subst hA
          have y0 := hcell 0 _ rfl
          have y1 := hcell 1 _ rfl
          have y2 := hcell 2 _ rfl
          have y3 := hcell 3 _ rfl
          have y4 := hcell 4 _ rfl
          have y5 := hcell 5 _ rfl
          simp only [Nat.add_zero] at y0
          have HX := Lib.hid hx
          have hk1 : (k : Int) < (ps.length : Int) := by omega
          have hwr := HI.out.2.2.1.size
          clear hcell hx hb
          obtain ⟨n0, n1, n2, n3, n4, n5⟩ := x
          simp only at y0 y1 y2 y3 y4 y5
          have HO := Lib.hid (one_str n0)
          have HIb := Lib.hid (HI.out.box (.cells #[.string n0, .int .i64 n1, .int .i64 n2, .int .i64 n3, .int .i64 n4, .int .i64 n5] 45))
          go_wp2_with (at_builtin; refine Words.wpList_append_any _ rfl (.tmp 34) (.tmp 37) _ rfl w.heap.size 9 i0 _ 1 16 Tryd.underlying48 hi0 hz0 hz1 hz2 rfl (by omega) u3 n _ rfl (HIb.out.2.1.alloc _) (wr.heap.size + 2) (some ⟨wr.heap.size + 1, 0, none⟩) 1 1 (sC n0) rfl (reads_str _ _ (by simp) n0 _) HO.out (by simp only [maxLen]; omega) (by omega) (by simp; omega) ?_; intro v' w2 ho hg hat; have HI2 := Lib.hid (HIb.out.app ho hg (take_next (·.name) _ _ HX.out)); clear ho hg hat HI HIb)
          go_roundw
          case rel => exact ⟨k + 1, n + 1, by omega, by go_num, HI2⟩
          case measure => simp [intOf]; omega
        · have HI0 : Hid (NamesIs w w.heap.size bx ((([] : List ByteArray) ++ ds.map (·.name)) ++ ps.map (·.name) ++ ([].take 0).map (fun x : Dev => x.name)) n u3 wr) := Lib.hid (by have h := HI.out; rw [List.take_of_length_le (by omega)] at h; simpa using h)
          have hk2 : ¬ (k : Int) < (ps.length : Int) := by omega
          clear HI
          have z : wr.cell? ⟨w.heap.size, 7, none⟩ = some (.slice Ac cs.length cc) := by have := HI0.out.2.2.2.cell 7; rw [HBX.out] at this; exact this
          go_wp2_with fail
          clear z
          have z7 : True := trivial
          clear z7
          go_loopw [3, 43] (fun o i wr => ∃ k n : Nat, k ≤ cs.length ∧ i = .int .i64 k ∧ Hid (NamesIs w w.heap.size bx (((([] : List ByteArray) ++ ds.map (·.name)) ++ ps.map (·.name)) ++ (cs.take k).map (·.name)) n o wr)) (fun _ i _ => cs.length - (intOf i).toNat)
          case atStart => exact ⟨0, n, Nat.zero_le _, rfl, HI0⟩
          case round =>
            clear HI0
            obtain ⟨k, n, hk, rfl, HI⟩ := hrel
            have hn : n ≤ ds.length + ps.length + cs.length := by have := HI.out.1; simp at this; omega
            have hk0 : (0 : Int) ≤ (k : Int) := by omega
            by_cases hlt : k < cs.length
            · obtain ⟨x, hx⟩ : ∃ x, cs[k]? = some x := ⟨_, List.getElem?_eq_getElem hlt⟩
              obtain ⟨b, off, hA, hb, hcell⟩ := row_at (LawFrame.RowsAt.below HL.out.2.2.1.1 HI.out.2.2.1) hx
              subst hA
              have y0 := hcell 0 _ rfl
              have y1 := hcell 1 _ rfl
              have y2 := hcell 2 _ rfl
              have y3 := hcell 3 _ rfl
              have y4 := hcell 4 _ rfl
              simp only [Nat.add_zero] at y0
              have HX := Lib.hid hx
              have hk1 : (k : Int) < (cs.length : Int) := by omega
              have hwr := HI.out.2.2.1.size
              clear hcell hx hb
              obtain ⟨n0, n1, n2, n3, n4, n5⟩ := x
              simp only at y0 y1 y2 y3 y4
              obtain ⟨Ai, ci, e, hci, -⟩ := id (HL.out.2.2.1.2 _ (List.mem_of_getElem? HX.out))
              simp only at e
              subst e
              have HO := Lib.hid (one_str n0)
              have HIb := Lib.hid (HI.out.box (.cells #[.string n0, .int .i64 n1, .int .i64 n2, .int .i64 n3, .slice Ai n5.length ci] 43))
              go_wp2_with (at_builtin; refine Words.wpList_append_any _ rfl (.tmp 47) (.tmp 50) _ rfl w.heap.size 9 i0 _ 1 16 Tryd.underlying48 hi0 hz0 hz1 hz2 rfl (by omega) u3 n _ rfl (HIb.out.2.1.alloc _) (wr.heap.size + 2) (some ⟨wr.heap.size + 1, 0, none⟩) 1 1 (sC n0) rfl (reads_str _ _ (by simp) n0 _) HO.out (by simp only [maxLen]; omega) (by omega) (by simp; omega) ?_; intro v' w2 ho hg hat; have HI2 := Lib.hid (HIb.out.app ho hg (take_next (·.name) _ _ HX.out)); clear ho hg hat HI HIb)
              go_roundw
              case rel => exact ⟨k + 1, n + 1, by omega, by go_num, HI2⟩
              case measure => simp [intOf]; omega
            · have HI0 : Hid (NamesIs w w.heap.size bx (((([] : List ByteArray) ++ ds.map (·.name)) ++ ps.map (·.name)) ++ cs.map (·.name) ++ ([].take 0).map (fun x : Dev => x.name)) n u3 wr) := Lib.hid (by have h := HI.out; rw [List.take_of_length_le (by omega)] at h; simpa using h)
              have hk2 : ¬ (k : Int) < (cs.length : Int) := by omega
              clear HI
              have z : wr.cell? ⟨w.heap.size, 8, none⟩ = some (.slice Ae es.length ce) := by have := HI0.out.2.2.2.cell 8; rw [HBX.out] at this; exact this
              go_wp2_with fail
              clear z
              have z8 : True := trivial
              clear z8
              go_loopw [3, 56] (fun o i wr => ∃ k n : Nat, k ≤ es.length ∧ i = .int .i64 k ∧ Hid (NamesIs w w.heap.size bx ((((([] : List ByteArray) ++ ds.map (·.name)) ++ ps.map (·.name)) ++ cs.map (·.name)) ++ (es.take k).map (·.name)) n o wr)) (fun _ i _ => es.length - (intOf i).toNat)
              case atStart => exact ⟨0, n, Nat.zero_le _, rfl, HI0⟩
              case round =>
                clear HI0
                obtain ⟨k, n, hk, rfl, HI⟩ := hrel
                have hn : n ≤ ds.length + ps.length + cs.length + es.length := by have := HI.out.1; simp at this; omega
                have hk0 : (0 : Int) ≤ (k : Int) := by omega
                by_cases hlt : k < es.length
                · obtain ⟨x, hx⟩ : ∃ x, es[k]? = some x := ⟨_, List.getElem?_eq_getElem hlt⟩
                  obtain ⟨b, off, hA, hb, hcell⟩ := row_at (LawFrame.RowsAt.below HL.out.2.2.2.1 HI.out.2.2.1) hx
                  subst hA
                  have y0 := hcell 0 _ rfl
                  have y1 := hcell 1 _ rfl
                  have y2 := hcell 2 _ rfl
                  have y3 := hcell 3 _ rfl
                  have y4 := hcell 4 _ rfl
                  simp only [Nat.add_zero] at y0
                  have HX := Lib.hid hx
                  have hk1 : (k : Int) < (es.length : Int) := by omega
                  have hwr := HI.out.2.2.1.size
                  clear hcell hx hb
                  obtain ⟨n0, n1, n2, n3, n4, n5⟩ := x
                  simp only at y0 y1 y2 y3 y4
                  obtain ⟨Ai, ci, e, hci, -⟩ := id (HL.out.2.2.2.2 _ (List.mem_of_getElem? HX.out))
                  simp only at e
                  subst e
                  have HO := Lib.hid (one_str n0)
                  have HIb := Lib.hid (HI.out.box (.cells #[.string n0, .int .i64 n1, .int .i64 n2, .int .i64 n3, .slice Ai n5.length ci] 54))
                  go_wp2_with (at_builtin; refine Words.wpList_append_any _ rfl (.tmp 60) (.tmp 63) _ rfl w.heap.size 9 i0 _ 1 16 Tryd.underlying48 hi0 hz0 hz1 hz2 rfl (by omega) u3 n _ rfl (HIb.out.2.1.alloc _) (wr.heap.size + 2) (some ⟨wr.heap.size + 1, 0, none⟩) 1 1 (sC n0) rfl (reads_str _ _ (by simp) n0 _) HO.out (by simp only [maxLen]; omega) (by omega) (by simp; omega) ?_; intro v' w2 ho hg hat; have HI2 := Lib.hid (HIb.out.app ho hg (take_next (·.name) _ _ HX.out)); clear ho hg hat HI HIb)
                  go_roundw
                  case rel => exact ⟨k + 1, n + 1, by omega, by go_num, HI2⟩
                  case measure => simp [intOf]; omega
                · have HI0 : Hid (NamesIs w w.heap.size bx ((((([] : List ByteArray) ++ ds.map (·.name)) ++ ps.map (·.name)) ++ cs.map (·.name)) ++ es.map (·.name) ++ ([].take 0).map (fun x : Dev => x.name)) n u3 wr) := Lib.hid (by have h := HI.out; rw [List.take_of_length_le (by omega)] at h; simpa using h)
                  have hk2 : ¬ (k : Int) < (es.length : Int) := by omega
                  clear HI
                  have HF : Hid (NamesIs w w.heap.size bx (Mat.names ⟨r, wt, bk, cy, key, ds, ps, cs, es⟩) n u3 wr) := Lib.hid (by have h := HI0.out; simpa [Mat.names] using h)
                  clear HI0
                  have hNl : (Mat.names ⟨r, wt, bk, cy, key, ds, ps, cs, es⟩).length ≤ 1000 := by simp [Mat.names]; omega
                  obtain ⟨N, hN⟩ : ∃ N, N = Mat.names ⟨r, wt, bk, cy, key, ds, ps, cs, es⟩ := ⟨_, rfl⟩
                  have HV : Hid (StrsAt wr N u3 ∧ Below w.heap.size w wr) := Lib.hid (by rw [hN]; exact ⟨LawFrame.RowsAt.of_own sC_len (by decide) HF.out.2.1, HF.out.2.2.1⟩)
                  rw [← hN] at hNl
                  have HN := Lib.hid hN
                  clear hN HF
                  obtain ⟨Au, cu, e, hcu, -⟩ := id HV.out.1
                  subst e
                  go_wp2_with fail
                  obtain ⟨wo, hwo⟩ : ∃ wo : World, wo = wr := ⟨_, rfl⟩
                  have HWO := Lib.hid hwo
                  clear hwo
                  go_loopw [68] (fun i wr => ∃ k : Nat, k ≤ N.length ∧ i = .int .i64 k ∧ Hid (Upto (fun _ s => wordB s = true) N k) ∧ Hid (wo = wr)) (fun i _ => N.length - (intOf i).toNat)
                  case atStart => exact ⟨0, Nat.zero_le _, rfl, Lib.hid (upto_zero _ _), HWO⟩
                  case round =>
                    have HV2 : Hid (StrsAt wo N (.slice Au N.length cu) ∧ Below w.heap.size w wo) := Lib.hid (by rw [HWO.out]; exact HV.out)
                    clear HV HWO
                    obtain ⟨k, hk, rfl, HU, HW⟩ := hrel
                    by_cases hlt : k < N.length
                    · obtain ⟨x, hx⟩ : ∃ x, N[k]? = some x := ⟨_, List.getElem?_eq_getElem hlt⟩
                      obtain ⟨b, off, hA, hcell⟩ := one_at HV2.out.1 hx
                      subst hA
                      rw [HW.out] at hcell
                      have y0 := hcell _ rfl
                      have HX := Lib.hid hx
                      have HXS := Lib.hid (HNS.out x (by rw [← HN.out]; exact List.mem_of_getElem? hx))
                      have hk1 : (k : Int) < (N.length : Int) := by omega
                      have hk0 : (0 : Int) ≤ (k : Int) := by omega
                      clear hx hcell
                      go_wp2_with fail
                      refine (lWord_any _ x HXS.out).mono ?_
                      rintro e w1 ⟨rfl, rfl⟩
                      have HNO : Hid (¬ wordB x = true → ¬ namesP N) := Lib.hid (fun hn hp => hn (hp k x HX.out).2)
                      have HP : Hid (wordB x = true → Upto (fun _ s => wordB s = true) N (k + 1)) := Lib.hid (fun hp => upto_step HU.out HX.out hp)
                      generalize wordB x = bw at *
                      cases bw with
                      | false =>
                        go_wp2_with fail
                        go_ret
                        exact tells_no (by rw [← HN.out]; exact HNO.out (by simp)) (by rw [← HW.out]; exact HV2.out.2)
                      | true =>
                        go_wp2_with fail
                        go_roundw
                        case rel => exact ⟨k + 1, by omega, by go_num, Lib.hid (HP.out (by simp)), HW⟩
                        case measure => simp [intOf]; omega
                    · have hkl : k = N.length := by omega
                      have HA := Lib.hid (upto_all (by rw [← hkl]; exact HU.out))
                      clear hkl
                      have hk2 : ¬ (k : Int) < (N.length : Int) := by omega
                      go_wp2_with fail
                      refine (twinsS_any wr N _ (by rw [← HW.out]; exact HV2.out.1) (by omega)).mono ?_
                      rintro e w3 ⟨b, rfl, hb, hB⟩
                      have hV := HV2.out.2
                      rw [HW.out] at hV
                      have HB := Lib.hid (hV.trans (hB.mono hV.size))
                      have HS : Hid ((!b) = true ↔ namesP (Mat.names ⟨r, wt, bk, cy, key, ds, ps, cs, es⟩)) := Lib.hid (by
                        have h2 := HA.out
                        rw [← HN.out]
                        constructor
                        · intro hn
                          have hb' : ¬ b = true := by cases b <;> simp at hn ⊢
                          have h4 := Classical.not_not.1 (fun n => hb' (hb.2 n))
                          exact fun i y hy => ⟨h4 i y hy, h2 i y hy⟩
                        · intro hp
                          cases b with
                          | false => rfl
                          | true => exact absurd (fun i y hy => (hp i y hy).1) (hb.1 rfl))
                      clear hb hB hV
                      go_wp2_with fail
                      go_ret
                      exact ⟨_, rfl, HS.out, HB.out⟩
end Go.Proofs.YtckbdnkonccmiaaDoor
namespace Go.Proofs.YtckbdnkonccmiaaDoor
open Go.RowKit
set_option maxHeartbeats 4000000 in
set_option maxRecDepth 100000 in
theorem lRight_any (w : World) (m : Mat) (vd vp vc ve : Value) (h : MatAt w m vd vp vc ve) (hm : MatSmall m) :
    Calls Tryd.prog 11 #[m.val vd vp vc ve] w (Tells (RightP m) w) := by
  obtain ⟨r, wt, bk, cy, key, ds, ps, cs, es⟩ := m
  obtain ⟨Ad, cd, e, hcd, -⟩ := id h.1
  simp only at e
  subst e
  obtain ⟨Ap, cp, e, hcp, -⟩ := id h.2.1
  simp only at e
  subst e
  obtain ⟨Ac, cc, e, hcc, -⟩ := id h.2.2.1.1
  simp only at e
  subst e
  obtain ⟨Ae, ce, e, hce, -⟩ := id h.2.2.2.1
  simp only at e
  subst e
  have HL := Lib.hid h
  have HM := Lib.hid hm
  clear h hm
  unfold Mat.val
  simp only
  go_enter Tryd.func11, Tryd.ntmps11
  obtain ⟨m, hmm⟩ : ∃ m : Mat, m = ⟨r, wt, bk, cy, key, ds, ps, cs, es⟩ := ⟨_, rfl⟩
  have HMM := Lib.hid hmm
  clear hmm
  have HQ : Hid (Below w.heap.size w (w.alloc (.cells #[.int .i64 r, .int .i64 wt, .int .i64 bk, .int .i64 cy, .string key, .slice Ad ds.length cd, .slice Ap ps.length cp, .slice Ac cs.length cc, .slice Ae es.length ce] 27)) ∧ Words.Blk (w.alloc (.cells #[.int .i64 r, .int .i64 wt, .int .i64 bk, .int .i64 cy, .string key, .slice Ad ds.length cd, .slice Ap ps.length cp, .slice Ac cs.length cc, .slice Ae es.length ce] 27)) w.heap.size 27 #[.int .i64 r, .int .i64 wt, .int .i64 bk, .int .i64 cy, .string key, .slice Ad ds.length cd, .slice Ap ps.length cp, .slice Ac cs.length cc, .slice Ae es.length ce]) := Lib.hid ⟨(Below.refl _ _).alloc (Nat.le_refl _) _, Words.Blk.new w _ _⟩
  by_cases ld : (ds.length : Int) ≤ 4
  case neg =>
    have HNO : Hid (¬ RightP ⟨r, wt, bk, cy, key, ds, ps, cs, es⟩) := Lib.hid (fun hp => ld (by have := hp.2.2.1.1; simp only at this; omega))
    go_wp2_with fail
    go_ret
    exact tells_no HNO.out HQ.out.1
  by_cases lp : (ps.length : Int) ≤ 16
  case neg =>
    have HNO : Hid (¬ RightP ⟨r, wt, bk, cy, key, ds, ps, cs, es⟩) := Lib.hid (fun hp => lp (by have := hp.2.2.2.1.1; simp only at this; omega))
    go_wp2_with fail
    go_ret
    exact tells_no HNO.out HQ.out.1
  by_cases lc : (cs.length : Int) ≤ 8
  case neg =>
    have HNO : Hid (¬ RightP ⟨r, wt, bk, cy, key, ds, ps, cs, es⟩) := Lib.hid (fun hp => lc (by have := hp.2.2.2.2.1.1; simp only at this; omega))
    go_wp2_with fail
    go_ret
    exact tells_no HNO.out HQ.out.1
  by_cases le : (es.length : Int) ≤ 8
  case neg =>
    have HNO : Hid (¬ RightP ⟨r, wt, bk, cy, key, ds, ps, cs, es⟩) := Lib.hid (fun hp => le (by have := hp.2.2.2.2.2.1.1; simp only at this; omega))
    go_wp2_with fail
    go_ret
    exact tells_no HNO.out HQ.out.1
  go_wp2_with fail
  have hsm : ds.length + ps.length + cs.length + es.length ≤ 1000 := by omega
  refine (times_any _ ⟨r, wt, bk, cy, key, ds, ps, cs, es⟩ _ _ _ _ (MatAt.below HL.out HQ.out.1)).mono ?_
  rintro e w0 ⟨b1, rfl, hb1, hB⟩
  have HQ : Hid (Below w.heap.size w w0 ∧ Words.Blk w0 w.heap.size 27 #[.int .i64 r, .int .i64 wt, .int .i64 bk, .int .i64 cy, .string key, .slice Ad ds.length cd, .slice Ap ps.length cp, .slice Ac cs.length cc, .slice Ae es.length ce]) := Lib.hid ⟨HQ.out.1.trans (hB.mono HQ.out.1.size), HQ.out.2.below hB HQ.out.2.lt⟩
  have HC := Lib.hid hb1
  clear hb1 hB
  cases b1 with
  | false =>
    have HNO : Hid (¬ RightP ⟨r, wt, bk, cy, key, ds, ps, cs, es⟩) := Lib.hid (fun hp => by have := HC.out.2 hp.1; cases this)
    go_wp2_with fail
    go_ret
    exact tells_no HNO.out HQ.out.1
  | true =>
  have P0 := Lib.hid (HC.out.1 rfl)
  clear HC
  have z0 : w0.cell? ⟨w.heap.size, 0, none⟩ = some (.int .i64 r) := HQ.out.2.cell 0
  have z1 : w0.cell? ⟨w.heap.size, 1, none⟩ = some (.int .i64 wt) := HQ.out.2.cell 1
  have z2 : w0.cell? ⟨w.heap.size, 2, none⟩ = some (.int .i64 bk) := HQ.out.2.cell 2
  have z3 : w0.cell? ⟨w.heap.size, 3, none⟩ = some (.int .i64 cy) := HQ.out.2.cell 3
  have z4 : w0.cell? ⟨w.heap.size, 4, none⟩ = some (.string key) := HQ.out.2.cell 4
  have z5 : w0.cell? ⟨w.heap.size, 5, none⟩ = some (.slice Ad ds.length cd) := HQ.out.2.cell 5
  have z6 : w0.cell? ⟨w.heap.size, 6, none⟩ = some (.slice Ap ps.length cp) := HQ.out.2.cell 6
  have z7 : w0.cell? ⟨w.heap.size, 7, none⟩ = some (.slice Ac cs.length cc) := HQ.out.2.cell 7
  have z8 : w0.cell? ⟨w.heap.size, 8, none⟩ = some (.slice Ae es.length ce) := HQ.out.2.cell 8
  go_wp2_with fail
  refine (keyed_any _ key HM.out.key).mono ?_
  rintro e wk ⟨rfl, rfl⟩
  obtain ⟨kb, hkb⟩ : ∃ b, keyB key = b := ⟨_, rfl⟩
  rw [hkb]
  have HKB := Lib.hid hkb
  clear hkb
  cases kb with
  | false =>
    have HNO : Hid (¬ RightP ⟨r, wt, bk, cy, key, ds, ps, cs, es⟩) := Lib.hid (fun hp => by have := hp.2.1; rw [show keyB key = false from HKB.out] at this; cases this)
    go_wp2_with fail
    go_ret
    exact tells_no HNO.out HQ.out.1
  | true =>
  go_wp2_with fail
  clear z0 z1 z2 z3 z4 z5 z6 z7 z8
  refine (named_any _ ⟨r, wt, bk, cy, key, ds, ps, cs, es⟩ _ _ _ _ (MatAt.below HL.out HQ.out.1) hsm HM.out.names).mono ?_
  rintro e w2 ⟨b1, rfl, hb1, hB⟩
  have HQ : Hid (Below w.heap.size w w2 ∧ Words.Blk w2 w.heap.size 27 #[.int .i64 r, .int .i64 wt, .int .i64 bk, .int .i64 cy, .string key, .slice Ad ds.length cd, .slice Ap ps.length cp, .slice Ac cs.length cc, .slice Ae es.length ce]) := Lib.hid ⟨HQ.out.1.trans (hB.mono HQ.out.1.size), HQ.out.2.below hB HQ.out.2.lt⟩
  have HC := Lib.hid hb1
  clear hb1 hB
  cases b1 with
  | false =>
    have HNO : Hid (¬ RightP ⟨r, wt, bk, cy, key, ds, ps, cs, es⟩) := Lib.hid (fun hp => by have := HC.out.2 hp.2.2.2.2.2.2; cases this)
    go_wp2_with fail
    go_ret
    exact tells_no HNO.out HQ.out.1
  | true =>
  have P2 := Lib.hid (HC.out.1 rfl)
  clear HC
  have z0 : w2.cell? ⟨w.heap.size, 0, none⟩ = some (.int .i64 r) := HQ.out.2.cell 0
  have z1 : w2.cell? ⟨w.heap.size, 1, none⟩ = some (.int .i64 wt) := HQ.out.2.cell 1
  have z2 : w2.cell? ⟨w.heap.size, 2, none⟩ = some (.int .i64 bk) := HQ.out.2.cell 2
  have z3 : w2.cell? ⟨w.heap.size, 3, none⟩ = some (.int .i64 cy) := HQ.out.2.cell 3
  have z4 : w2.cell? ⟨w.heap.size, 4, none⟩ = some (.string key) := HQ.out.2.cell 4
  have z5 : w2.cell? ⟨w.heap.size, 5, none⟩ = some (.slice Ad ds.length cd) := HQ.out.2.cell 5
  have z6 : w2.cell? ⟨w.heap.size, 6, none⟩ = some (.slice Ap ps.length cp) := HQ.out.2.cell 6
  have z7 : w2.cell? ⟨w.heap.size, 7, none⟩ = some (.slice Ac cs.length cc) := HQ.out.2.cell 7
  have z8 : w2.cell? ⟨w.heap.size, 8, none⟩ = some (.slice Ae es.length ce) := HQ.out.2.cell 8
  go_wp2_with fail
  clear z0 z1 z2 z3 z4 z5 z6 z7 z8
  refine (ldevices_any _ ⟨r, wt, bk, cy, key, ds, ps, cs, es⟩ _ _ _ _ (MatAt.below HL.out HQ.out.1) HM.out).mono ?_
  rintro e w3 ⟨b1, rfl, hb1, hB⟩
  have HQ : Hid (Below w.heap.size w w3 ∧ Words.Blk w3 w.heap.size 27 #[.int .i64 r, .int .i64 wt, .int .i64 bk, .int .i64 cy, .string key, .slice Ad ds.length cd, .slice Ap ps.length cp, .slice Ac cs.length cc, .slice Ae es.length ce]) := Lib.hid ⟨HQ.out.1.trans (hB.mono HQ.out.1.size), HQ.out.2.below hB HQ.out.2.lt⟩
  have HC := Lib.hid hb1
  clear hb1 hB
  cases b1 with
  | false =>
    have HNO : Hid (¬ RightP ⟨r, wt, bk, cy, key, ds, ps, cs, es⟩) := Lib.hid (fun hp => by have := HC.out.2 hp.2.2.1.2; cases this)
    go_wp2_with fail
    go_ret
    exact tells_no HNO.out HQ.out.1
  | true =>
  have P3 := Lib.hid (HC.out.1 rfl)
  clear HC
  have z0 : w3.cell? ⟨w.heap.size, 0, none⟩ = some (.int .i64 r) := HQ.out.2.cell 0
  have z1 : w3.cell? ⟨w.heap.size, 1, none⟩ = some (.int .i64 wt) := HQ.out.2.cell 1
  have z2 : w3.cell? ⟨w.heap.size, 2, none⟩ = some (.int .i64 bk) := HQ.out.2.cell 2
  have z3 : w3.cell? ⟨w.heap.size, 3, none⟩ = some (.int .i64 cy) := HQ.out.2.cell 3
  have z4 : w3.cell? ⟨w.heap.size, 4, none⟩ = some (.string key) := HQ.out.2.cell 4
  have z5 : w3.cell? ⟨w.heap.size, 5, none⟩ = some (.slice Ad ds.length cd) := HQ.out.2.cell 5
  have z6 : w3.cell? ⟨w.heap.size, 6, none⟩ = some (.slice Ap ps.length cp) := HQ.out.2.cell 6
  have z7 : w3.cell? ⟨w.heap.size, 7, none⟩ = some (.slice Ac cs.length cc) := HQ.out.2.cell 7
  have z8 : w3.cell? ⟨w.heap.size, 8, none⟩ = some (.slice Ae es.length ce) := HQ.out.2.cell 8
  go_wp2_with fail
  clear z0 z1 z2 z3 z4 z5 z6 z7 z8
  refine (lpoints_any _ ⟨r, wt, bk, cy, key, ds, ps, cs, es⟩ _ _ _ _ (MatAt.below HL.out HQ.out.1) HM.out).mono ?_
  rintro e w4 ⟨b1, rfl, hb1, hB⟩
  have HQ : Hid (Below w.heap.size w w4 ∧ Words.Blk w4 w.heap.size 27 #[.int .i64 r, .int .i64 wt, .int .i64 bk, .int .i64 cy, .string key, .slice Ad ds.length cd, .slice Ap ps.length cp, .slice Ac cs.length cc, .slice Ae es.length ce]) := Lib.hid ⟨HQ.out.1.trans (hB.mono HQ.out.1.size), HQ.out.2.below hB HQ.out.2.lt⟩
  have HC := Lib.hid hb1
  clear hb1 hB
  cases b1 with
  | false =>
    have HNO : Hid (¬ RightP ⟨r, wt, bk, cy, key, ds, ps, cs, es⟩) := Lib.hid (fun hp => by have := HC.out.2 hp.2.2.2.1.2; cases this)
    go_wp2_with fail
    go_ret
    exact tells_no HNO.out HQ.out.1
  | true =>
  have P4 := Lib.hid (HC.out.1 rfl)
  clear HC
  have z0 : w4.cell? ⟨w.heap.size, 0, none⟩ = some (.int .i64 r) := HQ.out.2.cell 0
  have z1 : w4.cell? ⟨w.heap.size, 1, none⟩ = some (.int .i64 wt) := HQ.out.2.cell 1
  have z2 : w4.cell? ⟨w.heap.size, 2, none⟩ = some (.int .i64 bk) := HQ.out.2.cell 2
  have z3 : w4.cell? ⟨w.heap.size, 3, none⟩ = some (.int .i64 cy) := HQ.out.2.cell 3
  have z4 : w4.cell? ⟨w.heap.size, 4, none⟩ = some (.string key) := HQ.out.2.cell 4
  have z5 : w4.cell? ⟨w.heap.size, 5, none⟩ = some (.slice Ad ds.length cd) := HQ.out.2.cell 5
  have z6 : w4.cell? ⟨w.heap.size, 6, none⟩ = some (.slice Ap ps.length cp) := HQ.out.2.cell 6
  have z7 : w4.cell? ⟨w.heap.size, 7, none⟩ = some (.slice Ac cs.length cc) := HQ.out.2.cell 7
  have z8 : w4.cell? ⟨w.heap.size, 8, none⟩ = some (.slice Ae es.length ce) := HQ.out.2.cell 8
  go_wp2_with fail
  clear z0 z1 z2 z3 z4 z5 z6 z7 z8
  refine (lcauses_any _ ⟨r, wt, bk, cy, key, ds, ps, cs, es⟩ _ _ _ _ (MatAt.below HL.out HQ.out.1) HM.out).mono ?_
  rintro e w5 ⟨b1, rfl, hb1, hB⟩
  have HQ : Hid (Below w.heap.size w w5 ∧ Words.Blk w5 w.heap.size 27 #[.int .i64 r, .int .i64 wt, .int .i64 bk, .int .i64 cy, .string key, .slice Ad ds.length cd, .slice Ap ps.length cp, .slice Ac cs.length cc, .slice Ae es.length ce]) := Lib.hid ⟨HQ.out.1.trans (hB.mono HQ.out.1.size), HQ.out.2.below hB HQ.out.2.lt⟩
  have HC := Lib.hid hb1
  clear hb1 hB
  cases b1 with
  | false =>
    have HNO : Hid (¬ RightP ⟨r, wt, bk, cy, key, ds, ps, cs, es⟩) := Lib.hid (fun hp => by have := HC.out.2 hp.2.2.2.2.1.2; cases this)
    go_wp2_with fail
    go_ret
    exact tells_no HNO.out HQ.out.1
  | true =>
  have P5 := Lib.hid (HC.out.1 rfl)
  clear HC
  have z0 : w5.cell? ⟨w.heap.size, 0, none⟩ = some (.int .i64 r) := HQ.out.2.cell 0
  have z1 : w5.cell? ⟨w.heap.size, 1, none⟩ = some (.int .i64 wt) := HQ.out.2.cell 1
  have z2 : w5.cell? ⟨w.heap.size, 2, none⟩ = some (.int .i64 bk) := HQ.out.2.cell 2
  have z3 : w5.cell? ⟨w.heap.size, 3, none⟩ = some (.int .i64 cy) := HQ.out.2.cell 3
  have z4 : w5.cell? ⟨w.heap.size, 4, none⟩ = some (.string key) := HQ.out.2.cell 4
  have z5 : w5.cell? ⟨w.heap.size, 5, none⟩ = some (.slice Ad ds.length cd) := HQ.out.2.cell 5
  have z6 : w5.cell? ⟨w.heap.size, 6, none⟩ = some (.slice Ap ps.length cp) := HQ.out.2.cell 6
  have z7 : w5.cell? ⟨w.heap.size, 7, none⟩ = some (.slice Ac cs.length cc) := HQ.out.2.cell 7
  have z8 : w5.cell? ⟨w.heap.size, 8, none⟩ = some (.slice Ae es.length ce) := HQ.out.2.cell 8
  go_wp2_with fail
  clear z0 z1 z2 z3 z4 z5 z6 z7 z8
  refine (leffects_any _ ⟨r, wt, bk, cy, key, ds, ps, cs, es⟩ _ _ _ _ (MatAt.below HL.out HQ.out.1) HM.out).mono ?_
  rintro e w6 ⟨b1, rfl, hb1, hB⟩
  have HQ : Hid (Below w.heap.size w w6 ∧ Words.Blk w6 w.heap.size 27 #[.int .i64 r, .int .i64 wt, .int .i64 bk, .int .i64 cy, .string key, .slice Ad ds.length cd, .slice Ap ps.length cp, .slice Ac cs.length cc, .slice Ae es.length ce]) := Lib.hid ⟨HQ.out.1.trans (hB.mono HQ.out.1.size), HQ.out.2.below hB HQ.out.2.lt⟩
  have HC := Lib.hid hb1
  clear hb1 hB
  cases b1 with
  | false =>
    have HNO : Hid (¬ RightP ⟨r, wt, bk, cy, key, ds, ps, cs, es⟩) := Lib.hid (fun hp => by have := HC.out.2 hp.2.2.2.2.2.1.2; cases this)
    go_wp2_with fail
    go_ret
    exact tells_no HNO.out HQ.out.1
  | true =>
  have P6 := Lib.hid (HC.out.1 rfl)
  clear HC
  have HR : Hid (RightP ⟨r, wt, bk, cy, key, ds, ps, cs, es⟩) := Lib.hid ⟨P0.out, HKB.out, ⟨by simp only; omega, P3.out⟩, ⟨by simp only; omega, P4.out⟩, ⟨by simp only; omega, P5.out⟩, ⟨by simp only; omega, P6.out⟩, P2.out⟩
  go_wp2_with fail
  go_ret
  exact tells_yes HR.out HQ.out.1
end Go.Proofs.YtckbdnkonccmiaaDoor
