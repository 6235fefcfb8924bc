/-
  THE WALK of great: lines that are not too much are short.
-/
import Derived.Test.YtpoihpehdlogbaaDoorLawNumbers
namespace Go.Proofs.YtpoihpehdlogbaaDoor
open Go.RowKit
def wsum (ws : List ByteArray) : Nat := (ws.map (fun s => min s.size 9000)).sum
def lsum (xs : List Ln) : Nat := (xs.map (fun x => x.ws.length + wsum x.ws)).sum
theorem wsum_next {ws : List ByteArray} {j : Nat} {s : ByteArray} (h : ws[j]? = some s) : wsum (ws.take (j + 1)) = wsum (ws.take j) + min s.size 9000 := by
  unfold wsum; rw [take_next h]; simp
theorem lsum_next {xs : List Ln} {k : Nat} {x : Ln} (h : xs[k]? = some x) : lsum (xs.take (k + 1)) = lsum (xs.take k) + (x.ws.length + wsum x.ws) := by
  unfold lsum; rw [take_next h]; simp
/-- lines of not too many letters -/
def Small (xs : List Ln) : Prop := xs.length + lsum xs < 9000
theorem flat_len' (ws : List (List UInt8)) : (ws.flatMap (fun v => 32 :: v)).length = ws.length + (ws.map List.length).sum := by
  induction ws with
  | nil => rfl
  | cons w ws ih => rw [List.flatMap_cons, List.length_append, ih]; simp; omega
theorem joinW_small (ws : List (List UInt8)) : (joinW ws).length ≤ ws.length + (ws.map List.length).sum := by
  cases ws with
  | nil => simp [joinW]
  | cons w ws =>
    unfold joinW
    rw [List.length_append, flat_len']
    simp; omega
theorem wsum_len {ws : List ByteArray} (h : wsum ws < 9000) : ((ws.map (fun s : ByteArray => s.data.toList)).map List.length).sum = wsum ws := by
  unfold wsum at *
  rw [List.map_map]
  induction ws with
  | nil => rfl
  | cons s ws ih =>
    simp only [List.map_cons, List.sum_cons, Function.comp_apply] at h ⊢
    rw [ih (by omega)]
    have e : s.data.toList.length = s.size := by simp
    rw [e]
    omega
theorem small_print {xs : List Ln} (h : lsum xs < 9000) : (printL (xs.map Ln.bs)).length ≤ xs.length + lsum xs := by
  unfold printL lsum at *
  induction xs with
  | nil => simp
  | cons x xs ih =>
    simp only [List.map_cons, List.sum_cons, List.flatMap_cons, List.length_append, List.length_cons, List.length_nil] at h ⊢
    have h1 := ih (by omega)
    have h2 := joinW_small x.bs
    have h3 := wsum_len (ws := x.ws) (by omega)
    have e : x.bs = x.ws.map (fun s : ByteArray => s.data.toList) := rfl
    have e2 : x.bs.length = x.ws.length := by rw [e, List.length_map]
    rw [← e] at h3
    omega
theorem Small.print {xs : List Ln} (h : Small xs) : (printL (xs.map Ln.bs)).length ≤ 9000 := by
  unfold Small at h
  have := small_print (xs := xs) (by omega)
  omega
/-- a bool is told; if it is no, the lines are small -/
def GreatIs (w : World) (xs : List Ln) (e : Ending) (w' : World) : Prop := ∃ b, e = .returned (.bool b) ∧ (b = false → Small xs) ∧ ∃ m, w' = w.drewN m
set_option maxHeartbeats 4000000 in
set_option maxRecDepth 100000 in
theorem great_any (w : World) (xs : List Ln) (v : Value) (h : LsAt w xs v) (hn : xs.length ≤ 1125899906842624) :
    Calls Tryd.prog 8 #[v] w (GreatIs w xs) := by
  obtain ⟨A, c, e, hc, -⟩ := id h.1
  subst e
  have HX := Lib.hid h
  clear h
  go_enter Tryd.func8, Tryd.ntmps8
  go_wp2_with fail
  go_loopw [3, 4] (fun n i wr => ∃ (k : Nat) (N : Int), k ≤ xs.length ∧ i = .int .i64 k ∧ n = .int .i64 N ∧ 0 ≤ N ∧ N ≤ 1125899906862624 ∧ Hid (N < 9000 → N = ((xs.length + lsum (xs.take k) : Nat) : Int)) ∧ Hid (∃ m, wr = w.drewN m)) (fun _ i _ => xs.length - (intOf i).toNat)
  case atStart => exact ⟨0, _, Nat.zero_le _, rfl, rfl, by omega, by omega, Lib.hid (fun _ => by simp [lsum]), Lib.hid ⟨0, rfl⟩⟩
  case round =>
    obtain ⟨k, N, hk, rfl, rfl, hN0, hN1, HN, HW⟩ := hrel
    have HL2 := Lib.hid (alike_ls HW.out HX.out)
    by_cases hlt : k < xs.length
    · have hk1 : (k : Int) < (xs.length : Int) := by omega
      have hk0 : (0 : Int) ≤ (k : Int) := by omega
      by_cases h9 : N < 9000
      case neg =>
        have h99 : decide (9000 ≤ N) = true := decide_eq_true (by omega)
        go_wp2_with fail
        go_ret
        exact ⟨true, by first | rfl | (rw [h99]), fun e => (by cases e), HW.out⟩
      obtain ⟨x, hx⟩ : ∃ x, xs[k]? = some x := ⟨_, List.getElem?_eq_getElem hlt⟩
      obtain ⟨g, off, hA, -, hcell⟩ := row_at HL2.out.1 hx
      subst hA
      have y1 := hcell 1 _ rfl
      clear hcell
      have HX1 := Lib.hid hx
      have HWS := Lib.hid (HL2.out.2 x (List.mem_of_getElem? hx))
      obtain ⟨xn, xv, xw⟩ := x
      obtain ⟨B, d, e, hd, -⟩ := id HWS.out.1
      simp only at e y1
      subst e
      have hwl : xw.length ≤ 1125899906842624 := HWS.out.2
      have HNE := Lib.hid (HN.out h9)
      clear hx
      go_wp2_with fail
      clear y1
      go_loopw [3, 5] (fun n i wr => ∃ (j : Nat) (M : Int), j ≤ xw.length ∧ i = .int .i64 j ∧ n = .int .i64 M ∧ 0 ≤ M ∧ M ≤ 1125899906862624 ∧ Hid (M < 9000 → M = ((xs.length + lsum (xs.take k) + xw.length + wsum (xw.take j) : Nat) : Int)) ∧ Hid (∃ m, wr = w.drewN m)) (fun _ i _ => xw.length - (intOf i).toNat)
      case atStart => exact ⟨0, _, Nat.zero_le _, rfl, rfl, by omega, by omega, Lib.hid (fun _ => by have := HNE.out; simp [wsum]; omega), HW⟩
      case round =>
        obtain ⟨j, M, hj, rfl, rfl, hM0, hM1, HM, HV⟩ := hrel
        have HL3 := Lib.hid (alike_ls HV.out HX.out)
        obtain ⟨g2, off2, hA2, -, hcell⟩ := row_at HL3.out.1 HX1.out
        injection hA2 with hA2
        injection hA2 with hg ho
        subst hg ho
        have y1 := hcell 1 _ rfl
        clear hcell
        by_cases hjl : j < xw.length
        · have hj1 : (j : Int) < (xw.length : Int) := by omega
          have hj0 : (0 : Int) ≤ (j : Int) := by omega
          by_cases hm9 : M < 9000
          case neg =>
            go_wp2_with fail
            go_roundw
            case rel => exact ⟨k + 1, M, by omega, by go_num, rfl, hM0, hM1, Lib.hid (fun h => absurd h hm9), HV⟩
            case measure => simp [intOf]; omega
          obtain ⟨s, hs⟩ : ∃ s, xw[j]? = some s := ⟨_, List.getElem?_eq_getElem hjl⟩
          obtain ⟨g3, off3, hA3, hcell3⟩ := one_at (HL3.out.2 _ (List.mem_of_getElem? HX1.out)).1 hs
          subst hA3
          have z0 := hcell3 _ rfl
          have HS := Lib.hid hs
          have HME := Lib.hid (HM.out hm9)
          clear hcell3 hs
          by_cases hbig : (9000 : Int) < (s.size : Int)
          · go_wp2_with fail
            clear y1 z0
            go_roundw
            case rel => exact ⟨j + 1, _, by omega, by go_num, rfl, by omega, by omega, Lib.hid (fun h => by omega), HV⟩
            case measure => simp [intOf]; omega
          · have hs0 : (0 : Int) ≤ (s.size : Int) := by omega
            go_wp2_with fail
            clear y1 z0
            go_roundw
            case rel => exact ⟨j + 1, _, by omega, by go_num, rfl, by omega, by omega, Lib.hid (fun h => by have := HME.out; rw [wsum_next HS.out]; omega), HV⟩
            case measure => simp [intOf]; omega
        · have hj2 : ¬ (j : Int) < (xw.length : Int) := by omega
          have hjx : j = xw.length := by omega
          have HM2 : Hid (M < 9000 → M = ((xs.length + lsum (xs.take (k + 1)) : Nat) : Int)) := Lib.hid (fun h => by have := HM.out h; rw [hjx, List.take_length] at this; rw [lsum_next HX1.out]; simp only; omega)
          clear hjx
          go_wp2_with fail
          go_roundw
          case rel => exact ⟨k + 1, M, by omega, by go_num, rfl, hM0, hM1, HM2, HV⟩
          case measure => simp [intOf]; omega
    · have hk2 : ¬ (k : Int) < (xs.length : Int) := by omega
      have HSM : Hid (N < 9000 → Small xs) := Lib.hid (fun h => by have := HN.out h; rw [show k = xs.length by omega, List.take_length] at this; unfold Small; omega)
      have HBW : Hid (∃ b, b = decide (9000 ≤ N)) := Lib.hid ⟨_, rfl⟩
      go_wp2_with fail
      go_ret
      exact ⟨decide (9000 ≤ N), rfl, fun e => HSM.out (by have := of_decide_eq_false e; omega), HW.out⟩
end Go.Proofs.YtpoihpehdlogbaaDoor
