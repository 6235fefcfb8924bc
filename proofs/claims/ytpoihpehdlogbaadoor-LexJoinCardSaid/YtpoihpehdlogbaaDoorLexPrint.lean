/-
  THE WALK of lex.Print: the text of lines.
-/
import Derived.Test.YtpoihpehdlogbaaDoorLexBuilder
import Derived.Test.YtpoihpehdlogbaaDoorLexTheory
import Derived.Test.YtpoihpehdlogbaaDoorLexSame
namespace Go.Proofs.YtpoihpehdlogbaaDoor
open Go.RowKit
/-- the words of a line, as bytes -/
def Ln.bs (x : Ln) : List (List UInt8) := x.ws.map (fun s => s.data.toList)
theorem printL_append (a b : List (List (List UInt8))) : printL (a ++ b) = printL a ++ printL b := by unfold printL; rw [List.flatMap_append]
theorem printL_one (ws : List (List UInt8)) : printL [ws] = joinW ws ++ [10] := by unfold printL; simp
theorem joinW_step (ws : List (List UInt8)) (w : List UInt8) (hne : ws ≠ []) : joinW (ws ++ [w]) = joinW ws ++ 32 :: w := by
  cases ws with
  | nil => exact absurd rfl hne
  | cons v ws => simp [joinW, List.flatMap_append]
theorem joinW_len : ∀ (ws : List (List UInt8)) (j : Nat) (v : List UInt8), ws[j]? = some v → (joinW (ws.take j)).length + 1 + v.length ≤ (joinW ws).length + 1 := by
  have key : ∀ (ws : List (List UInt8)) (j : Nat) (v : List UInt8), ws[j]? = some v → ((ws.take j).flatMap (fun u => 32 :: u)).length + 1 + v.length ≤ (ws.flatMap (fun u => 32 :: u)).length := by
    intro ws
    induction ws with
    | nil => intro j v h; simp at h
    | cons u ws ih =>
      intro j v h
      cases j with
      | zero => simp at h; subst h; simp; omega
      | succ j =>
        rw [List.getElem?_cons_succ] at h
        have := ih j v h
        rw [List.take_succ_cons, List.flatMap_cons, List.flatMap_cons, List.length_append, List.length_append]
        omega
  intro ws j v h
  cases ws with
  | nil => simp at h
  | cons u ws =>
    cases j with
    | zero => simp at h; subst h; simp [joinW]; omega
    | succ j =>
      rw [List.getElem?_cons_succ] at h
      have := key ws j v h
      rw [List.take_succ_cons]
      unfold joinW
      rw [List.length_append, List.length_append]
      omega
theorem printL_len {ls : List (List (List UInt8))} {k : Nat} {ws : List (List UInt8)} (h : ls[k]? = some ws) : (printL (ls.take k)).length + (joinW ws).length + 1 ≤ (printL ls).length := by
  obtain ⟨hk, he⟩ := List.getElem?_eq_some_iff.1 h
  have e : ls = ls.take k ++ (ws :: ls.drop (k + 1)) := by
    rw [← he, ← List.drop_eq_getElem_cons hk, List.take_append_drop]
  have e2 : printL ls = printL (ls.take k) ++ printL (ws :: ls.drop (k + 1)) := by rw [← printL_append, ← e]
  rw [e2, List.length_append]
  unfold printL
  rw [List.flatMap_cons, List.length_append, List.length_append, List.length_singleton]
  omega
theorem take_next {α : Type} {l : List α} {k : Nat} {x : α} (h : l[k]? = some x) : l.take (k + 1) = l.take k ++ [x] := by
  rw [List.take_add_one, h]; rfl
theorem cells_snoc (l : List UInt8) (c : UInt8) : Lib.byteCells (l ++ [c]) = Lib.byteCells l ++ [.int .u8 (c.toNat : Int)] := by simp [Lib.byteCells]
theorem cells_append (l m : List UInt8) : Lib.byteCells (l ++ m) = Lib.byteCells l ++ Lib.byteCells m := by simp [Lib.byteCells]
theorem snoc_len (l : List UInt8) (c : UInt8) : (l ++ [c]).length = l.length + 1 := by simp
abbrev IsB (B b : Nat) (l : List UInt8) (w : World) : Prop := Lib.IsBuilder 42 5 B b (Lib.byteCells l) w
theorem builderAt_below {B b : Nat} {p : Value} {bs : List Value} {w w' : World} (h : Lib.BuilderAt 42 5 B b p bs w) (hb : Below w.heap.size w w') : Lib.BuilderAt 42 5 B b p bs w' := by
  obtain ⟨h1, v, h2, h3, h4⟩ := h
  exact ⟨h1, v, (hb.block b (Array.getElem?_eq_some_iff.1 h2).1).trans h2, own_below h3 hb, h4⟩
theorem isB_below {B b : Nat} {l : List UInt8} {w w' : World} (h : IsB B b l w) (hb : Below w.heap.size w w') : IsB B b l w' := by
  rcases h with h | h
  · exact .inl (builderAt_below h hb)
  · exact .inr (builderAt_below h hb)
/-- what a writing call leaves -/
theorem byte_is (w0 w : World) (l : List UInt8) (c : UInt8) (n : Int) (hn : n = (c.toNat : Int)) (h : IsB w0.heap.size w0.heap.size l w) (hb : Below w0.heap.size w0 w) (hl : l.length + 1 ≤ 2000000) :
    Calls Tryd.prog 15 #[.pointer (some ⟨w0.heap.size, 0, none⟩), .int .u8 n] w fun e w' => e = .returned .nilIface ∧ IsB w0.heap.size w0.heap.size (l ++ [c]) w' ∧ Below w0.heap.size w0 w' := by
  subst hn
  refine (writeByte_any _ _ _ _ _ h (by rw [Lib.byteCells_length]; omega) hb.size).mono ?_
  rintro e w' ⟨rfl, h1, h2⟩
  refine ⟨rfl, ?_, hb.trans h2⟩
  unfold IsB
  rw [cells_snoc]
  exact .inr h1
theorem string_is (w0 w : World) (l : List UInt8) (s : ByteArray) (h : IsB w0.heap.size w0.heap.size l w) (hb : Below w0.heap.size w0 w) (hl : l.length + s.size ≤ 2000000) :
    Calls Tryd.prog 16 #[.pointer (some ⟨w0.heap.size, 0, none⟩), .string s] w fun e w' => e = .returned (.tuple #[.int .i64 s.size, .nilIface]) ∧ IsB w0.heap.size w0.heap.size (l ++ s.data.toList) w' ∧ Below w0.heap.size w0 w' := by
  refine (writeString_any _ _ _ _ _ h (by rw [Lib.byteCells_length]; omega) hb.size).mono ?_
  rintro e w' ⟨rfl, h1, h2⟩
  refine ⟨rfl, ?_, hb.trans h2⟩
  unfold IsB
  rw [cells_append]
  exact .inr h1
/-- what stands between two writes -/
def Bld (w0 : World) (l : List UInt8) (w : World) : Prop := IsB w0.heap.size w0.heap.size l w ∧ Below w0.heap.size w0 w
set_option maxHeartbeats 2000000 in
set_option maxRecDepth 100000 in
theorem print_any (w : World) (xs : List Ln) (v : Value) (h : LsAt w xs v) (hn : xs.length ≤ 1125899906842624) (hsz : (printL (xs.map Ln.bs)).length ≤ 1000000) :
    Calls Tryd.prog 10 #[v] w fun e w' => e = .returned (.string (toB (printL (xs.map Ln.bs)))) ∧ Below w.heap.size w w' := by
  obtain ⟨A, c, e, hc, -⟩ := id h.1
  subst e
  have HX := Lib.hid h
  have HS := Lib.hid hsz
  clear h hsz
  go_enter Tryd.func10, Tryd.ntmps10
  go_wp2_with fail
  have HB0 : Hid (Bld w [] (w.alloc (.cells #[.pointer none, .slice none 0 0] 42))) := Lib.hid ⟨Lib.fresh_isBuilder _ _ _, (Below.refl _ _).alloc (Nat.le_refl _) _⟩
  go_loopw [10] (fun i wr => ∃ k : Nat, k ≤ xs.length ∧ i = .int .i64 k ∧ Hid (Bld w (printL ((xs.map Ln.bs).take k)) wr)) (fun i _ => xs.length - (intOf i).toNat)
  case atStart => exact ⟨0, Nat.zero_le _, rfl, HB0⟩
  case round =>
    clear HB0
    obtain ⟨k, hk, rfl, HW⟩ := hrel
    by_cases hlt : k < xs.length
    · obtain ⟨x, hx⟩ : ∃ x, xs[k]? = some x := ⟨_, List.getElem?_eq_getElem hlt⟩
      have hL := HX.out.below HW.out.2
      obtain ⟨g, off, hA, hg, hcell⟩ := row_at hL.1 hx
      subst hA
      have y0 := hcell 0 _ rfl
      have y1 := hcell 1 _ rfl
      clear hcell
      simp only [Nat.add_zero] at y0
      have hXW := HX.out.2 x (List.mem_of_getElem? hx)
      obtain ⟨xn, xv, xw⟩ := x
      obtain ⟨B, d, e, hd, -⟩ := id hXW.1
      simp only at e y0 y1
      subst e
      have hlw := hXW.2
      have HXW := Lib.hid hXW
      have hbs : (xs.map Ln.bs)[k]? = some (xw.map (fun s => s.data.toList)) := by rw [List.getElem?_map, hx]; rfl
      obtain ⟨F, hF⟩ : ∃ F, F = xw.map (fun s : ByteArray => s.data.toList) := ⟨_, rfl⟩
      rw [← hF] at hbs
      obtain ⟨T, hT⟩ : ∃ T, T = printL ((xs.map Ln.bs).take k) := ⟨_, rfl⟩
      have hTn : printL ((xs.map Ln.bs).take (k + 1)) = T ++ joinW F ++ [10] := by rw [take_next hbs, printL_append, printL_one, hT, List.append_assoc]
      have hTl := printL_len hbs
      have hTs := HS.out
      rw [← hT] at HW hTl
      have hTb : T.length + (joinW F).length + 1 ≤ 1000000 := by omega
      have HTN := Lib.hid hTn
      have HF := Lib.hid hF
      have HTB := Lib.hid hTb
      have hk1 : (k : Int) < (xs.length : Int) := by omega
      have hk0 : (0 : Int) ≤ (k : Int) := by omega
      simp only at hlw
      clear hx hT hTn hTl hTs hTb hF hbs hXW hL
      go_wp2_with fail
      have HW0 : Hid (Bld w (T ++ joinW (F.take 0)) (wr.alloc (.cells #[.int .i64 xn, .slice B xw.length d] 27))) := Lib.hid (by
        have hb : Below wr.heap.size wr (wr.alloc (.cells #[.int .i64 xn, .slice B xw.length d] 27)) := (Below.refl _ _).alloc (Nat.le_refl _) _
        refine ⟨?_, HW.out.2.trans (hb.mono HW.out.2.size)⟩
        rw [show T ++ joinW (F.take 0) = T by simp [joinW]]
        exact isB_below HW.out.1 hb)
      clear y0 y1 HW
      go_loopw [17] (fun i wr => ∃ j : Nat, j ≤ xw.length ∧ i = .int .i64 j ∧ Hid (Bld w (T ++ joinW (F.take j)) wr)) (fun i _ => xw.length - (intOf i).toNat)
      case atStart => exact ⟨0, Nat.zero_le _, rfl, HW0⟩
      case round =>
        clear HW0
        obtain ⟨j, hj, rfl, HV⟩ := hrel
        by_cases hjl : j < xw.length
        · obtain ⟨s, hs⟩ : ∃ s, xw[j]? = some s := ⟨_, List.getElem?_eq_getElem hjl⟩
          have hfs : F[j]? = some s.data.toList := by rw [HF.out, List.getElem?_map, hs]; rfl
          obtain ⟨g2, off2, hA, hcell⟩ := one_at (LawFrame.RowsAt.below HXW.out.1 HV.out.2) hs
          subst hA
          have z0 := hcell _ rfl
          have hjlen := joinW_len F j _ hfs
          have hsz : s.data.toList.length = s.size := by simp
          rw [hsz] at hjlen
          have hb1 := HTB.out
          have hlen1 : (T ++ joinW (F.take j)).length + 1 ≤ 2000000 := by rw [List.length_append]; omega
          have hlen2 : (T ++ joinW (F.take j)).length + s.size ≤ 1900000 := by rw [List.length_append]; omega
          have HL1 := Lib.hid hlen1
          have HL2 := Lib.hid hlen2
          have HFS := Lib.hid hfs
          have hj1 : (j : Int) < (xw.length : Int) := by omega
          have hj0 : (0 : Int) ≤ (j : Int) := by omega
          clear hcell hs hfs hjlen hsz hb1 hlen1 hlen2
          by_cases hj2 : j = 0
          · have hd0 : ¬ (0 : Int) < (j : Int) := by omega
            have HJ := Lib.hid hj2
            clear hj2
            go_wp2_with (go_at_call 16; refine (string_is w _ _ s HV.out.1 HV.out.2 (by have := HL2.out; omega)).mono ?_; rintro e w1 ⟨rfl, h1, h2⟩; have H1 := Lib.hid (And.intro h1 h2); clear h1 h2 z0)
            go_roundw
            case rel => exact ⟨j + 1, by omega, by go_num, Lib.hid (by
              have h1 := H1.out
              have h2 := HFS.out
              have h3 := HJ.out
              subst h3
              unfold Bld
              rw [take_next h2]
              simpa [joinW] using h1)⟩
            case measure => simp [intOf]; omega
          · have hd0 : (0 : Int) < (j : Int) := by omega
            have HJ := Lib.hid hj2
            clear hj2
            go_wp2_with (first | (go_at_call 15; refine (byte_is w _ _ 32 32 rfl HV.out.1 HV.out.2 HL1.out).mono ?_; rintro e w1 ⟨rfl, h1, h2⟩; have H1 := Lib.hid (And.intro h1 h2); clear h1 h2 z0) | (go_at_call 16; refine (string_is w _ _ s H1.out.1 H1.out.2 (by have := HL2.out; rw [snoc_len]; omega)).mono ?_; rintro e w2 ⟨rfl, h1, h2⟩; have H2 := Lib.hid (And.intro h1 h2); clear h1 h2))
            go_roundw
            case rel => exact ⟨j + 1, by omega, by go_num, Lib.hid (by
              have h1 := H2.out
              have h2 := HFS.out
              have hne : F.take j ≠ [] := by
                intro e
                have := congrArg List.length e
                have hjF := (List.getElem?_eq_some_iff.1 h2).1
                rw [List.length_take, List.length_nil] at this
                have h0 := HJ.out
                omega
              unfold Bld
              rw [take_next h2, joinW_step _ _ hne]
              simpa using h1)⟩
            case measure => simp [intOf]; omega
        · have hj2 : ¬ (j : Int) < (xw.length : Int) := by omega
          have hjF : j = F.length := by rw [HF.out]; simp; omega
          have HV2 : Hid (Bld w (T ++ joinW F) wr) := Lib.hid (by have := HV.out; rw [hjF, List.take_length] at this; exact this)
          have HL3 := Lib.hid (show (T ++ joinW F).length + 1 ≤ 2000000 by have := HTB.out; rw [List.length_append]; omega)
          clear hjF HV
          go_wp2_with (go_at_call 15; refine (byte_is w _ _ 10 10 rfl HV2.out.1 HV2.out.2 HL3.out).mono ?_; rintro e w1 ⟨rfl, h1, h2⟩; have H1 := Lib.hid (And.intro h1 h2); clear h1 h2)
          go_roundw
          case rel => exact ⟨k + 1, by omega, by go_num, Lib.hid (by rw [HTN.out]; exact H1.out)⟩
          case measure => simp [intOf]; omega
    · have hk2 : ¬ (k : Int) < (xs.length : Int) := by omega
      have HV2 : Hid (Bld w (printL (xs.map Ln.bs)) wr) := Lib.hid (by have := HW.out; rw [show k = (xs.map Ln.bs).length by simp; omega, List.take_length] at this; exact this)
      clear HW
      go_wp2_with (go_at_call 17; refine (Tryd.Builder_String_any w.heap.size w.heap.size _ _ HV2.out.1 HV2.out.2.size).mono ?_; rintro e w1 ⟨rfl, h1⟩; have H1 := Lib.hid h1; clear h1)
      go_ret
      exact ⟨rfl, HV2.out.2.trans H1.out⟩
end Go.Proofs.YtpoihpehdlogbaaDoor
