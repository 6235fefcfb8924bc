/-
  QueuePlays: calls of a queue of any room answer as the document says; so does how many wait. For every input, with no condition.
-/
import Derived.Test.YtfogihnjeaeifaaQueueRAt
import Derived.LoopTactic
namespace Go.Proofs.Ytfogihnjeaeifaa
open Go.Conc Go.RowKit Go.ChangeShapes Go.WideShapes
/-- the queue, and the document's -/
def PI (B q g n : Nat) (s t : List Int × List Int) (w w' : World) : Prop := ((QI B w' q n s ∧ RQ B g n t w') ∧ Fits n s ∧ Fits n t) ∧ Below B w w' ∧ B ≤ w'.heap.size
theorem RQ.alloc {B g n : Nat} {t : List Int × List Int} {w : World} (h : RQ B g n t w) (o : Obj) : RQ B g n t (w.alloc o) := by
  obtain ⟨vu, vo, h⟩ := h
  exact ⟨vu, vo, h.1.alloc o, h.2.1.alloc o, h.2.2.1.alloc o, h.2.2.2⟩
theorem PI.alloc {B q g n : Nat} {s t : List Int × List Int} {w w1 : World} (h : PI B q g n s t w w1) (o : Obj) : PI B q g n s t w (w1.alloc o) :=
  ⟨⟨⟨h.1.1.1.others (Others.alloc 50 w1 o) (by decide), h.1.1.2.alloc o⟩, h.1.2⟩, h.2.1.alloc h.2.2 o, by have := h.2.2; simp; omega⟩
section
variable {B q g n : Nat} {s t : List Int × List Int} {w w1 : World}
theorem p_put (h : PI B q g n s t w w1) (u : Bool) (x : Int) : Calls Try.prog 15 #[.pointer (some ⟨q, 0, none⟩), .bool u, .int .i64 x] w1 fun e w' => e = .returned (.bool (qput n u x s).1) ∧ PI B q g n (qput n u x s).2 t w w' ∧ Cells w1 w' := by
  refine (put_any B q n s u x w1 h.1.1.1).mono ?_
  rintro e w' ⟨rfl, h1, h2, h3⟩
  exact ⟨rfl, ⟨⟨⟨h1, h.1.1.2.cells h3⟩, fits_put h.1.2.1 u x, h.1.2.2⟩, h.2.1.trans h2, Nat.le_trans h.2.2 h2.size⟩, h3⟩
theorem p_take (h : PI B q g n s t w w1) : Calls Try.prog 11 #[.pointer (some ⟨q, 0, none⟩)] w1 fun e w' => e = .returned (.tuple #[.int .i64 (qtake s).1.1, .bool (qtake s).1.2]) ∧ PI B q g n (qtake s).2 t w w' := by
  refine (take_any B q n s w1 h.1.1.1).mono ?_
  rintro e w' ⟨rfl, h1, h2, h3⟩
  exact ⟨rfl, ⟨⟨h1, h.1.1.2.cells h3⟩, fits_take h.1.2.1, h.1.2.2⟩, h.2.1.trans h2, Nat.le_trans h.2.2 h2.size⟩
theorem p_drain (h : PI B q g n s t w w1) (hn : n ≤ 64) : Calls Try.prog 13 #[.pointer (some ⟨q, 0, none⟩)] w1 fun e w' => e = .returned (.int .i64 ((s.1.length + s.2.length : Nat) : Int)) ∧ PI B q g n ([], []) t w w' := by
  refine (drain_any B q n s w1 h.1.1.1 (by have := h.1.2.1.1; have := h.1.2.1.2; omega)).mono ?_
  rintro e w' ⟨rfl, h1, h2, h3⟩
  exact ⟨rfl, ⟨⟨h1, h.1.1.2.cells h3⟩, ⟨by simp, by simp⟩, h.1.2.2⟩, h.2.1.trans h2, Nat.le_trans h.2.2 h2.size⟩
theorem p_many (h : PI B q g n s t w w1) : Calls Try.prog 17 #[.pointer (some ⟨q, 0, none⟩)] w1 fun e w' => e = .returned (.tuple #[.int .i64 s.1.length, .int .i64 s.2.length]) ∧ PI B q g n s t w w' := by
  refine (many_any B q n s w1 h.1.1.1).mono ?_
  rintro e w' ⟨rfl, h1, h2, h3⟩
  exact ⟨rfl, ⟨⟨h1, h.1.1.2.cells h3⟩, h.1.2⟩, h.2.1.trans h2, Nat.le_trans h.2.2 h2.size⟩
theorem r_put (h : PI B q g n s t w w1) (u : Bool) (x : Int) (hn : n ≤ 64) : Calls Try.prog 16 #[.pointer (some ⟨g, 0, none⟩), .bool u, .int .i64 x] w1 fun e w' => e = .returned (.bool (qput n u x t).1) ∧ PI B q g n s (qput n u x t).2 w w' := by
  refine (rput B g n t u x w1 h.1.1.2 h.2.2 hn).mono ?_
  rintro e w' ⟨rfl, h1, h2, h3⟩
  exact ⟨rfl, ⟨⟨h.1.1.1.others h3 (by decide), h1⟩, h.1.2.1, fits_put h.1.2.2 u x⟩, h.2.1.trans h2, Nat.le_trans h.2.2 h2.size⟩
theorem r_take (h : PI B q g n s t w w1) (hn : n ≤ 64) : Calls Try.prog 12 #[.pointer (some ⟨g, 0, none⟩)] w1 fun e w' => e = .returned (.tuple #[.int .i64 (qtake t).1.1, .bool (qtake t).1.2]) ∧ PI B q g n s (qtake t).2 w w' := by
  refine (rtake B g n t w1 h.1.1.2 h.2.2 hn h.1.2.2).mono ?_
  rintro e w' ⟨rfl, h1, h2, h3⟩
  exact ⟨rfl, ⟨⟨h.1.1.1.others h3 (by decide), h1⟩, h.1.2.1, fits_take h.1.2.2⟩, h.2.1.trans h2, Nat.le_trans h.2.2 h2.size⟩
theorem r_drain (h : PI B q g n s t w w1) (hn : n ≤ 64) : Calls Try.prog 14 #[.pointer (some ⟨g, 0, none⟩)] w1 fun e w' => e = .returned (.int .i64 ((t.1.length + t.2.length : Nat) : Int)) ∧ PI B q g n s ([], []) w w' := by
  refine (rdrain B g n t w1 h.1.1.2 (by have := h.1.2.2.1; have := h.1.2.2.2; omega)).mono ?_
  rintro e w' ⟨rfl, h1, h2, h3⟩
  exact ⟨rfl, ⟨⟨h.1.1.1.others h3 (by decide), h1⟩, h.1.2.1, ⟨by simp, by simp⟩⟩, h.2.1.trans h2, Nat.le_trans h.2.2 h2.size⟩
theorem r_many (h : PI B q g n s t w w1) : Calls Try.prog 18 #[.pointer (some ⟨g, 0, none⟩)] w1 fun e w' => e = .returned (.tuple #[.int .i64 t.1.length, .int .i64 t.2.length]) ∧ PI B q g n s t w w' := by
  refine (rmany B g n t w1 h.1.1.2).mono ?_
  rintro e w' ⟨rfl, h1, h2, h3⟩
  exact ⟨rfl, ⟨⟨h.1.1.1.others h3 (by decide), h1⟩, h.1.2⟩, h.2.1.trans h2, Nat.le_trans h.2.2 h2.size⟩
end
set_option maxHeartbeats 2000000 in
set_option maxRecDepth 100000 in
theorem plays_walk (m : Int) (l : List Op) (v : Value) (w : World) (hl : l.length ≤ 1000) (h : OpsAt w l v) :
    Calls Try.prog 3 #[.int .i64 m, v] w fun e w' => e = .returned (.bool true) ∧ Below w.heap.size w w' := by
  obtain ⟨n, hn⟩ : ∃ n : Nat, min (max m 1) 64 = (n : Int) := ⟨(min (max m 1) 64).toNat, by omega⟩
  have h1 : 1 ≤ n := by omega
  have h64 : n ≤ 64 := by omega
  have HN := Lib.hid hn
  clear hn
  have hv := h
  obtain ⟨A, c, rfl, hc, -⟩ := hv
  have H := Lib.hid h
  clear h
  have hnil := fun (w : World) (p : Option Addr) => run_eql_pointer_nil (P := Try.prog) w 24 p (by kernel_rfl)
  go_enter Try.func3, Try.ntmps3
  go_wp2_with fail
  refine (head_walk _).mono ?_
  rintro e w1 ⟨rfl, hb1⟩
  go_wp2_with fail
  refine (new_walk m n _ h1 h64 HN.out).mono ?_
  rintro e w2 ⟨q, rfl, hq, hb2⟩
  have HQ := Lib.hid hq
  have HB2 := Lib.hid (hb1.trans (hb2.mono hb1.size))
  have hs1 := hb1.size
  clear hq hb1 hb2
  go_wp2_with fail
  refine (rnew m n _ HN.out).mono ?_
  rintro e w3 ⟨rfl, rfl⟩
  have hI : PI w.heap.size q w2.heap.size n ([], []) ([], []) w (w2.alloc (.cells #[.int .i64 n, .slice none 0 0, .slice none 0 0] 50)) := by
    have hs2 := HB2.out.size
    refine ⟨⟨⟨(HQ.out.low hs1).others (Others.alloc 50 w2 _) (by decide) (by decide), _, _, Words.Blk.new _ _ _, World.ownsRow_nil _ _ _ _, World.ownsRow_nil _ _ _ _, .inl rfl, hs2⟩, ⟨by simp, by simp⟩, ⟨by simp, by simp⟩⟩, HB2.out.alloc hs2 _, by simp; omega⟩
  generalize w2.heap.size = g at *
  generalize w2.alloc (.cells #[.int .i64 n, .slice none 0 0, .slice none 0 0] 50) = w3 at *
  have HI := Lib.hid hI
  clear hI HQ HB2 hs1 HN
  go_wp2_with fail
  go_loopw [8] (fun i wr => ∃ (k : Nat) (s : List Int × List Int), k ≤ l.length ∧ i = .int .i64 k ∧ PI w.heap.size q g n s s w wr) (fun i _ => l.length - (intOf i).toNat)
  case atStart => exact ⟨0, _, Nat.zero_le _, rfl, HI.out⟩
  case round =>
    clear HI
    obtain ⟨k, s, hk, rfl, hI⟩ := hrel
    have HI := Lib.hid hI
    clear hI
    by_cases hlt : k < l.length
    · obtain ⟨o, hx⟩ : ∃ o, l[k]? = some o := ⟨_, List.getElem?_eq_getElem hlt⟩
      obtain ⟨bb, off', c', hv, hbl, hcell⟩ := H.out.at_ hx
      have e0 := hcell 0 _ rfl
      have e1 := hcell 1 _ rfl
      have e2 := hcell 2 _ rfl
      simp only [Nat.add_zero] at e0
      injection hv with hA e3 e4
      subst hA
      clear e3 e4 hcell hx
      have hbw := HI.out.2.1
      have h0 := (hbw.cell (p := ⟨bb, off' + k * 3, none⟩) hbl).trans e0
      have h1 := (hbw.cell (p := ⟨bb, off' + k * 3 + 1, none⟩) hbl).trans e1
      have h2 := (hbw.cell (p := ⟨bb, off' + k * 3 + 2, none⟩) hbl).trans e2
      clear e0 e1 e2 hbw
      by_cases h3 : o.what = 3 ∨ o.what = 4
      · have H34 : ((o.what == 3) = true) ∨ ((o.what == 3) = false ∧ (o.what == 4) = true) := by simp; omega
        rcases H34 with H3 | ⟨H3, H4⟩
        all_goals
          go_wp2_with fail
          refine (p_take (HI.out.alloc _)).mono ?_
          rintro e w4 ⟨rfl, hI⟩
          have HI2 := Lib.hid hI
          clear hI HI
          go_wp2_with fail
          refine (r_take HI2.out h64).mono ?_
          rintro e w5 ⟨rfl, hI⟩
          have HI3 := Lib.hid hI
          clear hI HI2
          generalize (qtake s).1.1 = x at *
          generalize (qtake s).1.2 = r at *
          generalize (qtake s).2 = s' at *
          clear h0 h1 h2
          go_wp2_with fail
          refine (p_many HI3.out).mono ?_
          rintro e w6 ⟨rfl, hI⟩
          have HI4 := Lib.hid hI
          clear hI HI3
          go_wp2_with fail
          refine (r_many HI4.out).mono ?_
          rintro e w7 ⟨rfl, hI⟩
          have HI5 := Lib.hid hI
          clear hI HI4
          go_wp2_with fail
          go_roundw
          case rel => exact ⟨k + 1, s', by omega, by go_num, HI5.out⟩
          case measure => simp [intOf]; omega
      · by_cases h5 : o.what = 5
        · have H3 : (o.what == 3) = false := by simp; omega
          have H4 : (o.what == 4) = false := by simp; omega
          have H5 : (o.what == 5) = true := by simp; omega
          go_wp2_with fail
          refine (p_drain (HI.out.alloc _) h64).mono ?_
          rintro e w4 ⟨rfl, hI⟩
          have HI2 := Lib.hid hI
          clear hI HI
          go_wp2_with fail
          refine (r_drain HI2.out h64).mono ?_
          rintro e w5 ⟨rfl, hI⟩
          have HI3 := Lib.hid hI
          clear hI HI2
          clear h0 h1 h2
          go_wp2_with fail
          refine (p_many HI3.out).mono ?_
          rintro e w6 ⟨rfl, hI⟩
          have HI4 := Lib.hid hI
          clear hI HI3
          go_wp2_with fail
          refine (r_many HI4.out).mono ?_
          rintro e w7 ⟨rfl, hI⟩
          have HI5 := Lib.hid hI
          clear hI HI4
          go_wp2_with fail
          go_roundw
          case rel => exact ⟨k + 1, ([], []), by omega, by go_num, HI5.out⟩
          case measure => simp [intOf]; omega
        · have H3 : (o.what == 3) = false := by simp; omega
          have H4 : (o.what == 4) = false := by simp; omega
          have H5 : (o.what == 5) = false := by simp; omega
          go_wp2_with fail
          have HI1 := Lib.hid (HI.out.alloc (.cells #[.int .i64 o.what, .bool o.urgent, .int .i64 o.x] 29))
          refine (p_put HI1.out o.urgent o.x).mono ?_
          rintro e w4 ⟨rfl, hI, hcs⟩
          have hx : (wr.alloc (.cells #[.int .i64 o.what, .bool o.urgent, .int .i64 o.x] 29)).heap[wr.heap.size]? = some (Obj.cells #[.int .i64 o.what, .bool o.urgent, .int .i64 o.x] 29 (0, 0)) := heap_alloc_new _ _
          have hx2 := (hcs _ _ _ _ hx).trans hx
          have b1 : w4.cell? ⟨wr.heap.size, 1, none⟩ = some (.bool o.urgent) := cell_of_row w4 wr.heap.size 1 _ _ _ hx2
          have b2 : w4.cell? ⟨wr.heap.size, 2, none⟩ = some (.int .i64 o.x) := cell_of_row w4 wr.heap.size 2 _ _ _ hx2
          have HI2 := Lib.hid hI
          clear hI HI1 HI hx hx2 hcs
          go_wp2_with fail
          refine (r_put HI2.out o.urgent o.x h64).mono ?_
          rintro e w5 ⟨rfl, hI⟩
          have HI3 := Lib.hid hI
          clear hI HI2 b1 b2
          generalize (qput n o.urgent o.x s).1 = r at *
          generalize (qput n o.urgent o.x s).2 = s' at *
          clear h0 h1 h2
          go_wp2_with fail
          refine (p_many HI3.out).mono ?_
          rintro e w6 ⟨rfl, hI⟩
          have HI4 := Lib.hid hI
          clear hI HI3
          go_wp2_with fail
          refine (r_many HI4.out).mono ?_
          rintro e w7 ⟨rfl, hI⟩
          have HI5 := Lib.hid hI
          clear hI HI4
          go_wp2_with fail
          go_roundw
          case rel => exact ⟨k + 1, s', by omega, by go_num, HI5.out⟩
          case measure => simp [intOf]; omega
    · go_wp2_with fail
      go_ret
      exact ⟨rfl, HI.out.2.1⟩
set_option maxRecDepth 100000 in
theorem plays_big (m : Int) (A : Option Addr) (k c : Nat) (w : World) (hl : 1000 < k) :
    Calls Try.prog 3 #[.int .i64 m, .slice A k c] w fun e w' => e = .returned (.bool true) ∧ Below w.heap.size w w' := by
  obtain ⟨n, hn⟩ : ∃ n : Nat, min (max m 1) 64 = (n : Int) := ⟨(min (max m 1) 64).toNat, by omega⟩
  have h1 : 1 ≤ n := by omega
  have h64 : n ≤ 64 := by omega
  have HN := Lib.hid hn
  clear hn
  have hnil := fun (w : World) (p : Option Addr) => run_eql_pointer_nil (P := Try.prog) w 24 p (by kernel_rfl)
  have hnn := fun (w : World) (p : Option Addr) => run_neq_pointer_nil (P := Try.prog) w 24 p (by kernel_rfl)
  go_enter Try.func3, Try.ntmps3
  go_wp2_with fail
  refine (head_walk _).mono ?_
  rintro e w1 ⟨rfl, hb1⟩
  go_wp2_with fail
  refine (new_walk m n _ h1 h64 HN.out).mono ?_
  rintro e w2 ⟨q, rfl, hq, hb2⟩
  have HB := Lib.hid (hb1.trans (hb2.mono hb1.size))
  clear hq hb1 hb2
  go_wp2_with fail
  refine (rnew m n _ HN.out).mono ?_
  rintro e w3 ⟨rfl, rfl⟩
  have HB2 := Lib.hid (HB.out.alloc HB.out.size (.cells #[.int .i64 n, .slice none 0 0, .slice none 0 0] 50))
  generalize w2.alloc (.cells #[.int .i64 n, .slice none 0 0, .slice none 0 0] 50) = w3 at *
  clear HB HN
  go_wp2_with fail
  go_ret
  exact ⟨rfl, HB2.out⟩
set_option maxRecDepth 100000 in
theorem plays_lifted (os : Os) (started : os.Started) (H : Type) (enc : TypeId × Value → H) :
    ReturnsInHanded {} Try.checked os 3 .any (Rows.queuePlaysSpec.pre6 enc Try.prog Try.f3 Rows.queuePlaysRow.domain false) (Rows.queuePlaysSpec.post enc Try.prog Try.f3 false true false false) := by
  refine LawFrame.handed (C := Try.checked) (tb := 4) (by kernel_rfl) (by kernel_rfl) (by kernel_rfl) Try.underlying4 rfl (fun ds hd => ?_) own started (by kernel_rfl) Try.func3
    (ChangeSpec.witness6 (enc := enc) (C := Try.checked) false ⟨#[], #[.int .i64 0, .slice none 0 0], []⟩ 8 (by kernel_rfl) (by kernel_rfl) (by kernel_rfl) (by kernel_rfl)) ?_
  · rw [Try.params3] at hd
    match ds, hd with
    | [d1, d2], _ => rfl
  · intro W args ds before base hval hA hlt hsz
    rw [Try.params3] at hval hA
    obtain ⟨v0, vs0, d0, ds0, p0, q0, hargs, rfl, rfl, h0, r0⟩ := trodAll_cons hA
    obtain ⟨v1, vs1, d1, ds1, p1, q1, rfl, rfl, rfl, h1, r1⟩ := trodAll_cons r0
    obtain ⟨rfl, rfl, rfl⟩ := trodAll_nil r1
    obtain rfl : args = #[v0, v1] := by cases args; simp_all
    obtain ⟨m, rfl, rfl, rfl, w0⟩ := open_int Try.underlying3 (hval 0 3 v0 rfl rfl) h0
    obtain ⟨l, hl, _⟩ := open_ops (hval 1 22 v1 rfl rfl) h1
    rcases Nat.lt_or_ge 1000 l.length with h5 | h5
    · obtain ⟨A, c, rfl, hc, -⟩ := hl
      exact plays_big m A _ c W h5
    · exact plays_walk m l v1 W h5 hl
theorem plays_holds : Rows.QueuePlaysSaid :=
  OpenClaim.holds_of_wide 3 Try.f3 rfl rfl rfl rfl rfl rfl rfl ⟨rfl, rfl, rfl, rfl, rfl⟩ rfl rfl rfl rfl rfl (by kernel_rfl) Try.func3 (by kernel_rfl)
    (of_decide_eq_true (by kernel_rfl)) (by unfold Func.isWrapper; first | (rw [if_pos (by decide +kernel)]; kernel_rfl) | (rw [if_neg (by decide +kernel)]; exact ⟨rfl, rfl⟩))
    (fun os started H enc _ => plays_lifted os started H enc)
#print axioms plays_holds
end Go.Proofs.Ytfogihnjeaeifaa
