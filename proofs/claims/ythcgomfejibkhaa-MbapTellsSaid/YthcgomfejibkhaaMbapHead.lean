/-
  MbapHead: bytes whose third or fourth one is not 0, or that tell a length that may not be, begin with no frame, whatever follows. For every two rows of bytes.
-/
import Derived.Test.YthcgomfejibkhaaMbapHeadFn
namespace Go.Proofs.Ythcgomfejibkhaa
open Go.RowKit Go.ChangeShapes Go.WideShapes Mbap

theorem at_app {b m : List UInt8} {i : Nat} (h : i < b.length) : at_ (b ++ m) i = at_ b i := by
  unfold at_; rw [List.getD_eq_getElem?_getD, List.getD_eq_getElem?_getD, List.getElem?_append_left h]
theorem barred_app {b m : List UInt8} (h : barred b = true) : barred (b ++ m) = true := by
  unfold barred at h ⊢
  simp only [Bool.or_eq_true, Bool.and_eq_true, decide_eq_true_eq, bne_iff_ne] at h ⊢
  rcases h with ⟨h1, h2⟩ | ⟨h1, h2⟩
  · exact .inl ⟨by simp; omega, by rw [at_app h1]; exact h2⟩
  · exact .inr ⟨by simp; omega, by rw [at_app h1]; exact h2⟩
theorem barred_six {b m : List UInt8} (h : 6 ≤ b.length) : barred (b ++ m) = barred b := by
  unfold barred
  rw [at_app (by omega), at_app (by omega)]
  have e1 : decide (2 < (b ++ m).length) = decide (2 < b.length) := by simp; omega
  have e2 : decide (3 < (b ++ m).length) = decide (3 < b.length) := by simp; omega
  rw [e1, e2]
theorem many_app {b m : List UInt8} (h : 6 ≤ b.length) : many (b ++ m) = many b := by
  unfold many; rw [at_app (by omega), at_app (by omega)]
theorem first_err {b m : List UInt8} {o : Option Adu} {n : Nat} (h : first b = (o, n, 31)) : first (b ++ m) = (none, 0, 31) := by
  unfold first at h
  split at h
  · rename_i hb; unfold first; rw [if_pos (barred_app hb)]
  · split at h
    · simp at h
    · split at h
      · rename_i h1 h2 h3
        unfold first
        rw [barred_six (by omega), many_app (by omega), if_neg h1, if_neg (by simp; omega), if_pos h3]
      · split at h <;> simp at h
theorem first_ok {b m : List UInt8} {f : Adu} {n e : Nat} (h : first b = (some f, n, e)) : first (b ++ m) = (some f, n, e) := by
  have hs := first_some h
  have h6 : 6 ≤ b.length := by omega
  have e1 : first (b ++ m) = (some ⟨at_ (b ++ m) 0 * 256 + at_ (b ++ m) 1, (b ++ m).getD 6 0, ((b ++ m).drop 7).take (many b - 1)⟩, 6 + many b, 0) := by
    unfold first
    rw [barred_six h6, many_app h6, if_neg (by rw [hs.2.2.2.2.2.2.2.2.2]; simp), if_neg (by simp; omega), if_neg (by omega), if_neg (by simp; omega)]
  have e2 : first b = (some ⟨at_ b 0 * 256 + at_ b 1, b.getD 6 0, (b.drop 7).take (many b - 1)⟩, 6 + many b, 0) := by
    unfold first
    rw [if_neg (by rw [hs.2.2.2.2.2.2.2.2.2]; simp), if_neg (by omega), if_neg (by omega), if_neg (by omega)]
  rw [← h, e1, e2, at_app (by omega), at_app (by omega)]
  have e3 : ((b ++ m).drop 7).take (many b - 1) = (b.drop 7).take (many b - 1) := by
    rw [List.drop_append_of_le_length (by omega), List.take_append_of_le_length (by simp; omega)]
  have e4 : (b ++ m).getD 6 0 = b.getD 6 0 := by
    rw [List.getD_eq_getElem?_getD, List.getD_eq_getElem?_getD, List.getElem?_append_left (by omega)]
  rw [e3, e4]
theorem head_big (A A2 : Option Addr) (n c m c2 : Nat) (w : World) (h : 300 < n ∨ 3000 < m) :
    Calls Try.prog 3 #[.slice A n c, .slice A2 m c2] w fun e w' => e = .returned (.bool true) ∧ Below w.heap.size w w' := by
  by_cases h1 : 300 < n
  · go_enter Try.func3, Try.ntmps3
    go_wp2_with fail
    refine (head_any _).mono ?_
    rintro e w1 ⟨rfl, hb1⟩
    go_wp2_with fail
    go_ret
    exact ⟨rfl, hb1⟩
  · have h2 : 3000 < m := by omega
    go_enter Try.func3, Try.ntmps3
    go_wp2_with fail
    refine (head_any _).mono ?_
    rintro e w1 ⟨rfl, hb1⟩
    go_wp2_with fail
    go_ret
    exact ⟨rfl, hb1⟩
/-- a first call whose result's slice shows its form -/
theorem First_form (l : List UInt8) (v : Value) (w : World) (h : BytesAt w l v) (hl2 : l.length ≤ 9223372036854775807) :
    Calls Try.prog 10 #[v] w fun e w' => (∃ (id u : Int) (A : Option Addr) (n c : Nat), e = .returned (.tuple #[.agg #[.int .u16 id, .int .u8 u, .slice A n c], .int .i64 ((first l).2.1 : Int), .int .i64 ((first l).2.2 : Int)])) ∧ Below w.heap.size w w' := by
  refine (First_any l v w h hl2).mono fun e w' ⟨h1, hb⟩ => ⟨?_, hb⟩
  obtain ⟨f', v', rfl, h2, h3, h4, h5⟩ := h1
  obtain ⟨A, c, rfl, -, -⟩ := h2
  exact ⟨_, _, _, _, _, rfl⟩
theorem lit_nil (w : World) (g : Nat) (hg : w.heap.size = g) : (w.alloc (.cells #[] 5)).ownsRow g 5 1 (.slice (some ⟨g, 0, none⟩) 0 0) 0 [] := by
  subst hg; exact World.ownsRow_lit w #[] 0 (Nat.le_refl _) (by simp [maxLen]) rfl
theorem reads_at {w : World} {l : List UInt8} {A : Option Addr} {c : Nat} (h : BytesAt w l (.slice A l.length c)) : Words.Reads w w.heap.size 1 A l.length (l.map bV) := by
  obtain ⟨A', c', e, -, hr⟩ := h.reads
  injection e with e1 _ _
  subst e1
  exact hr
theorem two_alloc {w : World} {o o2 : Obj} {size n : Nat} {A : Option Addr} {xs : List Value} (h : Words.Reads w w.heap.size size A n xs) : Words.Reads ((w.alloc o).alloc o2) w.heap.size size A n xs :=
  (h.alloc (Nat.le_refl _) o).alloc (by simp) o2
theorem app_is {w : World} {base n m : Nat} {b l : List UInt8} {v : Value} (h : w.ownsRow base 5 1 v (0 + n + m) (([] ++ b.map bV) ++ l.map bV)) : BytesAt w (b ++ l) v :=
  BytesAt.of_own (n := 0 + n + m) (by rw [List.map_append]; exact h)
theorem head_walk (b m : List UInt8) (v v2 : Value) (w : World) (hl : b.length ≤ 300) (hl2 : m.length ≤ 3000) (hb : BytesAt w b v) (hm : BytesAt w m v2) :
    Calls Try.prog 3 #[v, v2] w fun e w' => e = .returned (.bool true) ∧ Below w.heap.size w w' := by
  obtain ⟨i0, hi0, hz0, hz1, hz2⟩ := info_parts u8_info
  obtain ⟨A, c, rfl, hc, -⟩ := hb.reads
  obtain ⟨A2, c2, rfl, hc2, -⟩ := hm.reads
  have HB := Lib.hid hb
  have HM := Lib.hid hm
  clear hb hm
  go_enter Try.func3, Try.ntmps3
  go_wp2_with fail
  refine (head_any _).mono ?_
  rintro e w1 ⟨rfl, hb1⟩
  have HB1 := Lib.hid (LawFrame.RowsAt.below HB.out hb1)
  have HM1 := Lib.hid (LawFrame.RowsAt.below HM.out hb1)
  have HX1 := Lib.hid hb1
  clear HB HM hb1
  go_wp2_with fail
  refine (First_form b _ _ HB1.out (by omega)).mono ?_
  rintro e w2 ⟨⟨id, u, A3, n3, c3, rfl⟩, hb2⟩
  have HB2 := Lib.hid (LawFrame.RowsAt.below HB1.out hb2)
  have HM2 := Lib.hid (LawFrame.RowsAt.below HM1.out hb2)
  have HX2 := Lib.hid (HX1.out.trans (hb2.mono HX1.out.size))
  clear HB1 HM1 hb2 HX1
  have HO1 := Lib.hid (one_bytes b)
  have HO2 := Lib.hid (one_bytes m)
  generalize hr : first b = r at *
  have HR := Lib.hid hr
  clear hr
  obtain ⟨rf, rn, re⟩ := r
  dsimp only
  go_wp2_with (first | (at_builtin; refine Words.wpList_append_any _ rfl (.tmp 29) (.tmp 30) _ rfl (w2.heap.size + 1) 5 i0 _ 1 1 Try.underlying22 hi0 hz0 hz1 hz2 rfl (by omega) (.slice (some ⟨w2.heap.size + 1, 0, none⟩) 0 0) 0 [] rfl (lit_nil _ _ (World.size_alloc _ _)) w2.heap.size A b.length c (b.map bV) rfl (two_alloc (reads_at HB2.out)) HO1.out (by simp only [maxLen]; omega) (by omega) (by simp) ?_; intro v3 w3 ho3 hg3 hat3; have hb3 : Below w2.heap.size w2 w3 := (((Below.refl _ _).alloc (Nat.le_refl _) _).alloc (by simp) _).grown hg3 (by simp; omega) (fun k hk => by simp [Value.ownBlock] at hk; omega); have hs3 : w2.heap.size + 1 ≤ w3.heap.size := (by have := hg3.size; simp at this; omega); have HO3 := Lib.hid ho3; clear ho3 hg3 hat3) | (at_builtin; refine Words.wpList_append_any _ rfl (.tmp 31) (.tmp 32) _ rfl (w2.heap.size + 1) 5 i0 _ 1 1 Try.underlying22 hi0 hz0 hz1 hz2 rfl (by omega) v3 (0 + b.length) ([] ++ b.map bV) rfl HO3.out w2.heap.size A2 m.length c2 (m.map bV) rfl ((reads_at HM2.out).below hb3) HO2.out (by simp only [maxLen]; omega) (by omega) hs3 ?_; intro v4 w4 ho4 hg4 hat4; have hb4 : Below w2.heap.size w2 w4 := hb3.grown hg4 hb3.size (fun k hk => by have := (World.ownsRow.lt HO3.out k hk).1; omega); have HA4 := Lib.hid (app_is ho4); clear ho4 hg4 hat4 HO3))
  refine (First_form (b ++ m) _ _ HA4.out (by simp; omega)).mono ?_
  rintro e w5 ⟨⟨id5, u5, A5, n5, c5, rfl⟩, hb5⟩
  have HX5 := Lib.hid (HX2.out.trans ((hb4.trans (hb5.mono hb4.size)).mono HX2.out.size))
  clear HB2 HM2 HA4 hb3 hs3 hb4 hb5 HX2
  rcases rf with _ | f
  · obtain ⟨rfl, rfl | rfl⟩ := first_none HR.out
    · go_wp2_with fail
      go_ret
      exact ⟨rfl, HX5.out.alloc HX5.out.size _⟩
    · rw [first_err HR.out]
      go_wp2_with fail
      go_ret
      exact ⟨rfl, HX5.out.alloc HX5.out.size _⟩
  · obtain rfl := (first_some HR.out).1
    rw [first_ok HR.out]
    have hn : ((rn : Int) == 0) = false := by have := (first_some HR.out).2.1; rw [beq_eq_false_iff_ne]; omega
    go_wp2_with fail
    go_ret
    exact ⟨rfl, HX5.out.alloc HX5.out.size _⟩
theorem own : ownKnob Try.prog.godebug = none := by kernel_rfl
set_option maxRecDepth 100000 in
theorem mbapHead_lifted (os : Os) (started : os.Started) (H : Type) (enc : TypeId × Value → H) :
    ReturnsInHanded {} Try.checked os 3 .any (Rows.mbapHeadSpec.pre6 enc Try.prog Try.f3 Rows.mbapHeadRow.domain false) (Rows.mbapHeadSpec.post enc Try.prog Try.f3 false true false false) := by
  refine LawFrame.handed (C := Try.checked) (tb := 4) (by kernel_rfl) (by kernel_rfl) (by kernel_rfl) Try.underlying4 rfl (fun ds hd => ?_) own started (by kernel_rfl) Try.func3
    (ChangeSpec.witness6 (enc := enc) (C := Try.checked) false ⟨#[], #[.slice none 0 0, .slice none 0 0], []⟩ 8 (by kernel_rfl) (by kernel_rfl) (by kernel_rfl) (by kernel_rfl)) ?_
  · rw [Try.params3] at hd
    match ds, hd with
    | [d1, d2], _ => rfl
  · intro W args ds before base hval hA hlt hsz
    rw [Try.params3] at hval hA
    obtain ⟨v0, vs0, d0, ds0, p0, q0, hargs, rfl, rfl, h0, r0⟩ := trodAll_cons hA
    obtain ⟨v1, vs1, d1, ds1, p1, q1, rfl, rfl, rfl, h1, r1⟩ := trodAll_cons r0
    obtain ⟨rfl, rfl, rfl⟩ := trodAll_nil r1
    obtain rfl : args = #[v0, v1] := by cases args; simp_all
    obtain ⟨b, hb, _⟩ := LawFrame.open_bytes Try.underlying22 Try.underlying5 (by kernel_rfl) (hval 0 22 v0 rfl rfl) h0
    obtain ⟨m, hm, _⟩ := LawFrame.open_bytes Try.underlying22 Try.underlying5 (by kernel_rfl) (hval 1 22 v1 rfl rfl) h1
    by_cases h5 : 300 < b.length ∨ 3000 < m.length
    · obtain ⟨A, c, rfl, hc, -⟩ := hb
      obtain ⟨A2, c2, rfl, hc2, -⟩ := hm
      exact head_big A A2 _ c _ c2 W h5
    · exact head_walk b m v0 v1 W (by omega) (by omega) hb hm
theorem mbapHead_holds : Rows.MbapHeadSaid :=
  OpenClaim.holds_of_wide 3 Try.f3 rfl rfl rfl rfl rfl rfl rfl ⟨rfl, rfl, rfl, rfl, rfl⟩ rfl rfl rfl rfl rfl (by kernel_rfl) Try.func3 (by kernel_rfl)
    (of_decide_eq_true (by kernel_rfl)) (by unfold Func.isWrapper; first | (rw [if_pos (by decide +kernel)]; kernel_rfl) | (rw [if_neg (by decide +kernel)]; exact ⟨rfl, rfl⟩))
    (fun os started H enc _ => mbapHead_lifted os started H enc)
#print axioms mbapHead_holds
end Go.Proofs.Ythcgomfejibkhaa
