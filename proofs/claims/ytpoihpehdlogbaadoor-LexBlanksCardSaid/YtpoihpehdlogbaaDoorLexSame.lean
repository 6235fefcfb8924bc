/-
  THE WALKS of the document's SameWords and Same: alike?
-/
import Derived.Test.YtpoihpehdlogbaaDoorLexLines
namespace Go.Proofs.YtpoihpehdlogbaaDoor
open Go.RowKit
theorem eq_of_upto {α : Type} {a b : List α} (hl : a.length = b.length) (h : Upto (fun i x => b[i]? = some x) a a.length) : a = b := by
  apply List.ext_getElem? 
  intro i
  rcases Nat.lt_or_ge i a.length with hi | hi
  · have := h i a[i] hi (List.getElem?_eq_getElem hi)
    rw [this, List.getElem?_eq_getElem hi]
  · rw [List.getElem?_eq_none hi, List.getElem?_eq_none (by omega)]
/-- a bool is told; nothing but the count of draws turns -/
def Quiet (b : Bool) (w : World) (e : Ending) (w' : World) : Prop := e = .returned (.bool b) ∧ ∃ m, w' = w.drewN m
theorem StrsAt.drewN {w : World} {l : List ByteArray} {v : Value} (h : StrsAt w l v) (m : Nat) : StrsAt (w.drewN m) l v := h
theorem drawn_on {w wr : World} (h : ∃ m, wr = w.drewN m) (n : Nat) : ∃ m, wr.drewN n = w.drewN m := by
  obtain ⟨m, rfl⟩ := h
  exact ⟨m + n, World.drewN_drewN _ _ _⟩
theorem alike_strs {w wr : World} {l : List ByteArray} {v : Value} (h : ∃ m, wr = w.drewN m) (hl : StrsAt w l v) : StrsAt wr l v := by
  obtain ⟨m, rfl⟩ := h
  exact hl
set_option maxHeartbeats 4000000 in
set_option maxRecDepth 100000 in
theorem sameWords_any (w : World) (a b : List ByteArray) (va vb : Value) (ha : StrsAt w a va) (hb : StrsAt w b vb) (_hla : a.length ≤ 1125899906842624) (hlb : b.length ≤ 1125899906842624) :
    Calls Tryd.prog 12 #[va, vb] w (Quiet (decide (a = b)) w) := by
  obtain ⟨r, hr⟩ : ∃ r, r = decide (a = b) := ⟨_, rfl⟩
  rw [← hr]
  have HR := Lib.hid hr
  clear hr
  obtain ⟨A, c, e, hc, -⟩ := id ha
  subst e
  obtain ⟨B, d, e, hd, -⟩ := id hb
  subst e
  have HA := Lib.hid ha
  have HB := Lib.hid hb
  clear ha hb
  by_cases hl : a.length = b.length
  case neg =>
    have HNO := Lib.hid (show r = false by rw [HR.out]; exact decide_eq_false (fun e => hl (by rw [e])))
    have h1 : ((a.length : Int) == (b.length : Int)) = false := by rw [beq_eq_false_iff_ne]; omega
    have h2 : ((a.length : Int) != (b.length : Int)) = true := by rw [bne, h1]; rfl
    clear hl
    go_enter Tryd.func12, Tryd.ntmps12
    go_wp2_with fail
    go_ret
    exact ⟨by rw [HNO.out]; rfl, 0, rfl⟩
  have HLL := Lib.hid hl
  have h1 : ((a.length : Int) == (b.length : Int)) = true := by simp [hl]
  have h2 : ((a.length : Int) != (b.length : Int)) = false := by rw [bne, h1]; rfl
  have hl1 : a.length ≤ b.length := by omega
  clear hl
  go_enter Tryd.func12, Tryd.ntmps12
  go_wp2_with fail
  clear h1 h2
  go_loopw [5] (fun i wr => ∃ (k : Nat), k ≤ a.length ∧ i = .int .i64 k ∧ Hid (Upto (fun i x => b[i]? = some x) a k) ∧ Hid (∃ m, wr = w.drewN m)) (fun i _ => a.length - (intOf i).toNat)
  case atStart => exact ⟨0, Nat.zero_le _, rfl, Lib.hid (upto_zero _ _), Lib.hid ⟨0, rfl⟩⟩
  case round =>
    obtain ⟨k, hk, rfl, HU, HW⟩ := hrel
    have HA2 := Lib.hid (alike_strs HW.out HA.out)
    have HB2 := Lib.hid (alike_strs HW.out HB.out)
    by_cases hlt : k < a.length
    · obtain ⟨x, hx⟩ : ∃ x, a[k]? = some x := ⟨_, List.getElem?_eq_getElem hlt⟩
      obtain ⟨y, hy⟩ : ∃ y, b[k]? = some y := ⟨_, List.getElem?_eq_getElem (by omega)⟩
      obtain ⟨g, off, hA, hcell⟩ := one_at HA2.out hx
      subst hA
      have y0 := hcell _ rfl
      clear hcell
      obtain ⟨g2, off2, hA, hcell⟩ := one_at HB2.out hy
      subst hA
      have y1 := hcell _ rfl
      have HX := Lib.hid hx
      have HY := Lib.hid hy
      have hk1 : (k : Int) < (a.length : Int) := by omega
      have hk2 : (k : Int) < (b.length : Int) := by omega
      have hk0 : (0 : Int) ≤ (k : Int) := by omega
      clear hcell hx hy
      have hcs : Hid (x = y) ∧ (x.toList == y.toList) = true ∧ (x.toList != y.toList) = false ∨ Hid (¬ x = y) ∧ (x.toList == y.toList) = false ∧ (x.toList != y.toList) = true := by
        by_cases e : x = y
        · exact .inl ⟨Lib.hid e, by simp [e], by simp [e]⟩
        · exact .inr ⟨Lib.hid e, bytes_ne e, by rw [bne, bytes_ne e]; rfl⟩
      rcases hcs with ⟨HE, hxy, hxy2⟩ | ⟨HE, hxy, hxy2⟩
      · go_upto_region 6 with fail
        go_quiet (fail)
        clear y0 y1
        go_wp2_with fail
        go_roundw
        case rel => exact ⟨k + 1, by omega, by go_num, Lib.hid (upto_step HU.out HX.out (by rw [HY.out, HE.out])), Lib.hid (drawn_on HW.out nq)⟩
        case measure => simp [intOf]; omega
      · have HNO := Lib.hid (show r = false by rw [HR.out]; exact decide_eq_false (fun e => HE.out (by have h := HX.out; rw [e, HY.out] at h; injection h with h; exact h.symm)))
        go_upto_region 6 with fail
        go_quiet (fail)
        clear y0 y1
        go_wp2_with fail
        go_ret
        exact ⟨by rw [HNO.out]; rfl, drawn_on HW.out nq⟩
    · have hkl : k = a.length := by omega
      have HEQ := Lib.hid (show r = true by rw [HR.out]; exact decide_eq_true (eq_of_upto HLL.out (by rw [← hkl]; exact HU.out)))
      clear hkl
      have hk2 : ¬ (k : Int) < (a.length : Int) := by omega
      go_wp2_with fail
      go_ret
      exact ⟨by rw [HEQ.out]; rfl, HW.out⟩
/-- lines as they are read: their numbers and words -/
def LsAt (w : World) (xs : List Ln) (v : Value) : Prop := LawFrame.RowsAt w 2 Ln.cells xs v ∧ ∀ x ∈ xs, StrsAt w x.ws x.v ∧ x.ws.length ≤ 1125899906842624
theorem LsAt.below {w w' : World} {xs : List Ln} {v : Value} (h : LsAt w xs v) (hb : Below w.heap.size w w') : LsAt w' xs v := ⟨LawFrame.RowsAt.below h.1 hb, fun x hx => ⟨LawFrame.RowsAt.below (h.2 x hx).1 hb, (h.2 x hx).2⟩⟩
theorem alike_ls {w wr : World} {l : List Ln} {v : Value} (h : ∃ m, wr = w.drewN m) (hl : LsAt w l v) : LsAt wr l v := by
  obtain ⟨m, rfl⟩ := h
  exact hl
set_option maxHeartbeats 4000000 in
set_option maxRecDepth 100000 in
theorem same_any (w : World) (a b : List Ln) (va vb : Value) (ha : LsAt w a va) (hb : LsAt w b vb) (_hla : a.length ≤ 1125899906842624) (hlb : b.length ≤ 1125899906842624) :
    Calls Tryd.prog 13 #[va, vb] w (Quiet (decide (a.map Ln.told = b.map Ln.told)) w) := by
  obtain ⟨r, hr⟩ : ∃ r, r = decide (a.map Ln.told = b.map Ln.told) := ⟨_, rfl⟩
  rw [← hr]
  have HR := Lib.hid hr
  clear hr
  obtain ⟨A, c, e, hc, -⟩ := id ha.1
  subst e
  obtain ⟨B, d, e, hd, -⟩ := id hb.1
  subst e
  have HA := Lib.hid ha
  have HB := Lib.hid hb
  clear ha hb
  by_cases hl : a.length = b.length
  case neg =>
    have HNO := Lib.hid (show r = false by rw [HR.out]; exact decide_eq_false (fun e => hl (by simpa using congrArg List.length e)))
    have h1 : ((a.length : Int) == (b.length : Int)) = false := by rw [beq_eq_false_iff_ne]; omega
    have h2 : ((a.length : Int) != (b.length : Int)) = true := by rw [bne, h1]; rfl
    clear hl
    go_enter Tryd.func13, Tryd.ntmps13
    go_wp2_with fail
    go_ret
    exact ⟨by rw [HNO.out]; rfl, 0, rfl⟩
  have HLL := Lib.hid hl
  have h1 : ((a.length : Int) == (b.length : Int)) = true := by simp [hl]
  have h2 : ((a.length : Int) != (b.length : Int)) = false := by rw [bne, h1]; rfl
  have hl1 : a.length ≤ b.length := by omega
  clear hl
  go_enter Tryd.func13, Tryd.ntmps13
  go_wp2_with fail
  clear h1 h2
  go_loopw [5] (fun i wr => ∃ (k : Nat), k ≤ a.length ∧ i = .int .i64 k ∧ Hid (Upto (fun i x => (b.map Ln.told)[i]? = some x) (a.map Ln.told) k) ∧ Hid (∃ m, wr = w.drewN m)) (fun i _ => a.length - (intOf i).toNat)
  case atStart => exact ⟨0, Nat.zero_le _, rfl, Lib.hid (upto_zero _ _), Lib.hid ⟨0, rfl⟩⟩
  case round =>
    obtain ⟨k, hk, rfl, HU, HW⟩ := hrel
    have HA2 := Lib.hid (alike_ls HW.out HA.out)
    have HB2 := Lib.hid (alike_ls HW.out HB.out)
    by_cases hlt : k < a.length
    · obtain ⟨x, hx⟩ : ∃ x, a[k]? = some x := ⟨_, List.getElem?_eq_getElem hlt⟩
      obtain ⟨y, hy⟩ : ∃ y, b[k]? = some y := ⟨_, List.getElem?_eq_getElem (by omega)⟩
      obtain ⟨g, off, hA, -, hcell⟩ := row_at HA2.out.1 hx
      subst hA
      have y0 := hcell 0 _ rfl
      have y1 := hcell 1 _ rfl
      clear hcell
      obtain ⟨g2, off2, hA, -, hcell⟩ := row_at HB2.out.1 hy
      subst hA
      have z0 := hcell 0 _ rfl
      have z1 := hcell 1 _ rfl
      simp only [Nat.add_zero] at y0 z0
      have HXW := Lib.hid (HA2.out.2 x (List.mem_of_getElem? hx))
      have HYW := Lib.hid (HB2.out.2 y (List.mem_of_getElem? hy))
      have HX : Hid ((a.map Ln.told)[k]? = some x.told) := Lib.hid (by rw [List.getElem?_map, hx]; rfl)
      have HY : Hid ((b.map Ln.told)[k]? = some y.told) := Lib.hid (by rw [List.getElem?_map, hy]; rfl)
      have hk1 : (k : Int) < (a.length : Int) := by omega
      have hk2 : (k : Int) < (b.length : Int) := by omega
      have hk0 : (0 : Int) ≤ (k : Int) := by omega
      clear hcell hx hy
      obtain ⟨xn, xv, xw⟩ := x
      obtain ⟨yn, yv, yw⟩ := y
      simp only at y0 y1 z0 z1
      have hcall : ∀ n, Calls Tryd.prog 12 #[xv, yv] (wr.drewN n) fun e w'' => e = .returned (.bool (decide (xw = yw))) ∧ ∃ n, w'' = wr.drewN n := fun n => by
        refine (sameWords_any (wr.drewN n) xw yw xv yv HXW.out.1 HYW.out.1 HXW.out.2 HYW.out.2).mono ?_
        rintro e w' ⟨rfl, n2, rfl⟩
        exact ⟨rfl, n + n2, by rw [World.drewN_drewN]⟩
      have HC := Lib.hid hcall
      clear hcall
      have hcs : Hid ((xn, xw) = (yn, yw)) ∧ (xn == yn) = true ∧ (xn != yn) = false ∧ decide (xw = yw) = true ∨ Hid (¬ (xn, xw) = (yn, yw)) ∧ ((xn == yn) = false ∧ (xn != yn) = true ∨ (xn == yn) = true ∧ (xn != yn) = false ∧ decide (xw = yw) = false) := by
        by_cases e1 : xn = yn
        · by_cases e2 : xw = yw
          · exact .inl ⟨Lib.hid (by rw [e1, e2]), by simp [e1], by simp [e1], by simp [e2]⟩
          · exact .inr ⟨Lib.hid (fun e => by injection e with a b; exact e2 b), .inr ⟨by simp [e1], by simp [e1], by simp [e2]⟩⟩
        · exact .inr ⟨Lib.hid (fun e => by injection e with a b; exact e1 a), .inl ⟨by simp [e1], by simp [e1]⟩⟩
      rcases hcs with ⟨HE, h1, h2, h3⟩ | ⟨HE, hcs⟩
      · have HC2 := HC
        rw [h3] at HC2
        go_upto_region 6 with fail
        go_quiet ((go_at_call 12; exact HC2.out _))
        clear y0 y1 z0 z1
        go_wp2_with fail
        go_roundw
        case rel => exact ⟨k + 1, by omega, by go_num, Lib.hid (upto_step HU.out HX.out (by rw [HY.out]; exact congrArg some HE.out.symm)), Lib.hid (drawn_on HW.out nq)⟩
        case measure => simp [intOf]; omega
      · have HNO := Lib.hid (show r = false by rw [HR.out]; exact decide_eq_false (fun e => HE.out (by have h := HX.out; rw [e, HY.out] at h; injection h with h; exact h.symm)))
        rcases hcs with ⟨h1, h2⟩ | ⟨h1, h2, h3⟩
        · go_upto_region 6 with fail
          go_quiet (fail)
          clear y0 y1 z0 z1
          go_wp2_with fail
          go_ret
          exact ⟨by rw [HNO.out]; rfl, drawn_on HW.out nq⟩
        · have HC2 := HC
          rw [h3] at HC2
          go_upto_region 6 with fail
          go_quiet ((go_at_call 12; exact HC2.out _))
          clear y0 y1 z0 z1
          go_wp2_with fail
          go_ret
          exact ⟨by rw [HNO.out]; rfl, drawn_on HW.out nq⟩
    · have hkl : k = a.length := by omega
      have HEQ := Lib.hid (show r = true by rw [HR.out]; exact decide_eq_true (eq_of_upto (by simpa using HLL.out) (by rw [List.length_map, ← hkl]; exact HU.out)))
      clear hkl
      have hk2 : ¬ (k : Int) < (a.length : Int) := by omega
      go_wp2_with fail
      go_ret
      exact ⟨by rw [HEQ.out]; rfl, HW.out⟩
end Go.Proofs.YtpoihpehdlogbaaDoor
