/-
  The document's some and names, walked.
-/
import Derived.Test.YtbpenoelmangkaaMatRef1
import Derived.Deep.RegionHeldLaw
import Derived.Deep.RegionHeld3
import Derived.Deep.RegionLaw
import Derived.Deep.CondSized
import Derived.Deep.CutBlock
import Derived.Deep.DeepCutAuto
import Derived.Deep.QuietTactic
import Derived.BigQuiet
import Derived.StillTailTactics
import Derived.Maps.OwnSet
import Derived.Laws.Pointers
import Derived.JoinedCond
import Derived.OwnWalk
import Derived.LoopTactic
import Derived.WalkSpells
namespace Go.Proofs.Ytbpenoelmangkaa
open Go.RowKit
/-- a bool is told, and what lay is left as it was -/
def Tells (p : Prop) (w : World) (e : Ending) (w' : World) : Prop := ∃ b, e = .returned (.bool b) ∧ (b = true ↔ p) ∧ Below w.heap.size w w'
theorem tells_yes {p : Prop} {w w' : World} (h : p) (hb : Below w.heap.size w w') : Tells p w (.returned (.bool true)) w' := ⟨true, rfl, ⟨fun _ => h, fun _ => rfl⟩, hb⟩
theorem tells_no {p : Prop} {w w' : World} (h : ¬ p) (hb : Below w.heap.size w w') : Tells p w (.returned (.bool false)) w' := ⟨false, rfl, ⟨fun e => (by cases e), fun e => absurd e h⟩, hb⟩
theorem below_drewn {B : Nat} {w w' : World} (h : Below B w w') (n : Nat) : Below B w (w'.drewN n) := ⟨h.os, h.tape, h.output, h.size, h.block⟩
/-- none of the first ones is the k-th one -/
def FreshAt {α : Type} (same : α → α → Prop) (l : List α) (k j : Nat) : Prop := ∀ x, l[k]? = some x → Fresh same l x j
theorem freshAt_zero {α : Type} (same : α → α → Prop) (l : List α) (k : Nat) : FreshAt same l k 0 := fun x _ => fresh_zero same l x
theorem freshAt_step {α : Type} {same : α → α → Prop} {l : List α} {k j : Nat} {x y : α} (h : FreshAt same l k j) (hx : l[k]? = some x) (hy : l[j]? = some y) (hn : ¬ same y x) : FreshAt same l k (j + 1) := by
  intro z hz
  rw [hx] at hz; injection hz with hz; subst hz
  exact fresh_step (h x hx) hy hn
theorem not_fresh {α : Type} {same : α → α → Prop} {l : List α} {k j : Nat} {x y : α} (hj : j < k) (hy : l[j]? = some y) (hs : same y x) : ¬ Fresh same l x k := fun h => h j y hj hy hs
/-- the k-th cell of a row of single ones, and where it lies -/
theorem one_at {α : Type} {f : α → List Value} {l : List α} {A : Option Addr} {c : Nat} {w : World} (h : LawFrame.RowsAt w 1 f l (.slice A l.length c)) {k : Nat} {x : α} (hx : l[k]? = some x) : ∃ b off, A = some ⟨b, off, none⟩ ∧ ∀ u, f x = [u] → w.cell? ⟨b, off + k, none⟩ = some u := by
  obtain ⟨b, off, c', hv, -, hc⟩ := h.at_ hx
  injection hv with hA
  refine ⟨b, off, hA, fun u hu => ?_⟩
  have := hc 0 u (by rw [hu]; rfl)
  simpa using this
set_option maxHeartbeats 4000000 in
set_option maxRecDepth 100000 in
theorem rsome_any (w : World) (l : List Int) (v : Value) (h : NumsAt w l v) (hl : l.length ≤ 1125899906842624) (most size : Int) :
    Calls Try.prog 43 #[v, .int .i64 most, .int .i64 size] w (Tells (someP l most size) w) := by
  obtain ⟨A, c, e, hc, -⟩ := id h
  subst e
  have HL := Lib.hid h
  clear h
  go_enter Try.func43, Try.ntmps43
  go_wp2_with fail
  go_loopw [7] (fun i wr => ∃ k : Nat, k ≤ l.length ∧ i = .int .i64 k ∧ Hid (Upto (fun i x => (0 ≤ x ∧ x < size) ∧ Fresh (· = ·) l x i) l k) ∧ Hid (Below w.heap.size w wr)) (fun i _ => l.length - (intOf i).toNat)
  case atStart => exact ⟨0, Nat.zero_le _, rfl, Lib.hid (upto_zero _ _), Lib.hid (Below.refl _ _)⟩
  case round =>
    obtain ⟨k, hk, rfl, HU, HW⟩ := hrel
    by_cases hlt : k < l.length
    · obtain ⟨x, hx⟩ : ∃ x, l[k]? = some x := ⟨_, List.getElem?_eq_getElem hlt⟩
      obtain ⟨b, off, hA, hcell⟩ := one_at (LawFrame.RowsAt.below HL.out HW.out) hx
      subst hA
      clear hcell
      have HX := Lib.hid hx
      have hk1 : (k : Int) < (l.length : Int) := by omega
      have hk0 : (0 : Int) ≤ (k : Int) := by omega
      clear hx
      go_wp2_with fail
      obtain ⟨wo, rfl⟩ : ∃ wo : World, wo = wr := ⟨_, rfl⟩
      go_loopw [8] (fun i wr => ∃ j : Nat, j ≤ k ∧ i = .int .i64 j ∧ Hid (FreshAt (· = ·) l k j) ∧ Hid (Below w.heap.size w wr)) (fun i _ => l.length - (intOf i).toNat)
      case atStart => exact ⟨0, Nat.zero_le _, rfl, Lib.hid (freshAt_zero _ _ _), HW⟩
      case round =>
        clear HW
        obtain ⟨j, hj, rfl, HF, HW⟩ := hrel
        obtain ⟨b', off', hA, hcell⟩ := one_at (LawFrame.RowsAt.below HL.out HW.out) HX.out
        injection hA with hA
        injection hA with hA1 hA2 _
        subst hA1 hA2
        have y0 := hcell _ rfl
        clear hcell
        by_cases hjk : j < k
        · obtain ⟨y, hy⟩ : ∃ y, l[j]? = some y := ⟨_, List.getElem?_eq_getElem (by omega)⟩
          obtain ⟨b', off', hA, hcell⟩ := one_at (LawFrame.RowsAt.below HL.out HW.out) hy
          injection hA with hA
          injection hA with hA1 hA2 _
          subst hA1 hA2
          have y1 := hcell _ rfl
          have HY := Lib.hid hy
          have hjl : (j : Int) < (l.length : Int) := by omega
          have hj0 : (0 : Int) ≤ (j : Int) := by omega
          have hjk1 : (j : Int) < (k : Int) := by omega
          clear hcell hy
          have hcs : Hid (x = y) ∧ (x == y) = true ∨ Hid (¬ y = x) ∧ (x == y) = false := by
            by_cases e : x = y
            · exact .inl ⟨Lib.hid e, by simp [e]⟩
            · exact .inr ⟨Lib.hid (fun h => e h.symm), by simp [e]⟩
          rcases hcs with ⟨HE, hxy⟩ | ⟨HE, hxy⟩
          · have HNO := Lib.hid (show ¬ someP l most size from fun hp => not_fresh hjk HY.out HE.out.symm (hp.2.2 k x HX.out).2)
            go_upto_region 7 with fail
            go_quiet (fail)
            have HW1 := Lib.hid (below_drewn HW.out nq)
            clear y0 y1 HW
            generalize wr.drewN nq = wa at *
            go_wp2_with fail
            go_ret
            exact tells_no HNO.out HW1.out
          · go_upto_region 7 with fail
            go_quiet (fail)
            have HW1 := Lib.hid (below_drewn HW.out nq)
            clear y0 y1 HW
            generalize wr.drewN nq = wa at *
            go_wp2_with fail
            go_roundw
            case rel => exact ⟨j + 1, by omega, by go_num, Lib.hid (freshAt_step HF.out HX.out HY.out HE.out), HW1⟩
            case measure => simp [intOf]; omega
        · obtain rfl : j = k := by omega
          have HP : Hid (0 ≤ x ∧ x < size → Upto (fun i x => (0 ≤ x ∧ x < size) ∧ Fresh (· = ·) l x i) l (j + 1)) := Lib.hid (fun hp => upto_step HU.out HX.out ⟨hp, HF.out x HX.out⟩)
          have HNO : Hid (¬ (0 ≤ x ∧ x < size) → ¬ someP l most size) := Lib.hid (fun hn hp => hn (hp.2.2 j x HX.out).1)
          by_cases h0 : x < 0
          · go_wp2_with fail
            go_ret
            exact tells_no (HNO.out (by omega)) HW.out
          · by_cases h1 : size ≤ x
            · go_wp2_with fail
              go_ret
              exact tells_no (HNO.out (by omega)) HW.out
            · go_wp2_with fail
              go_roundw
              case rel => exact ⟨j + 1, by omega, by go_num, Lib.hid (HP.out ⟨by omega, by omega⟩), HW⟩
              case measure => simp [intOf]; omega
    · have hkl : k = l.length := by omega
      have HA := Lib.hid (upto_all (by rw [← hkl]; exact HU.out))
      clear hkl
      have hk2 : ¬ (k : Int) < (l.length : Int) := by omega
      by_cases h1 : 1 ≤ (l.length : Int)
      · by_cases h2 : (l.length : Int) ≤ most
        · go_wp2_with fail
          go_ret
          exact tells_yes ⟨h1, h2, HA.out⟩ HW.out
        · go_wp2_with fail
          go_ret
          exact tells_no (fun hp => absurd hp.2.1 (by omega)) HW.out
      · go_wp2_with fail
        go_ret
        exact tells_no (fun hp => absurd hp.1 (by omega)) HW.out
end Go.Proofs.Ytbpenoelmangkaa
