/-
  DelayPlays: whatever is seen, of any times, is answered as the document says. For every input, with no condition.
-/
import Derived.Test.YtgnpoiojiocmgaaDelayHead
import Derived.Test.YtgnpoiojiocmgaaArgs
import Derived.StillTailTactics
namespace Go.Proofs.Ytgnpoiojiocmgaa
open Go.RowKit Delay Go.ChangeShapes Go.WideShapes

/-- a See of a value at a time -/
structure Op where
  v : Bool
  now : Int
def Op.cells (o : Op) : List Value := [.bool o.v, .int .i64 o.now]
def OpsAt (w : World) (l : List Op) (v : Value) : Prop := LawFrame.RowsAt w 2 Op.cells l v
/-- what stands behind so many Sees: both delays are the same -/
def PInv (w : World) (gd gr : Nat) (d d' : D) (wx : World) : Prop := (d.ok ∧ d'.ok) ∧ DAt wx gd d ∧ RAt wx gr d' ∧ Below w.heap.size w wx ∧ (w.heap.size ≤ gd ∧ gd < gr)
theorem PInv.drew {w wx : World} {gd gr : Nat} {d d' : D} (h : PInv w gd gr d d' wx) : PInv w gd gr d d' wx.drew := ⟨h.1, h.2.1, h.2.2.1, h.2.2.2.1.drew, h.2.2.2.2⟩
theorem PInv.see {w wx wy : World} {gd gr : Nat} {d d' d2 : D} (h : PInv w gd gr d d' wx) (hA : DAt wy gd d2) (ho : d2.ok) (hg : wx.grownBy wy (some gd)) : PInv w gd gr d2 d' wy :=
  ⟨⟨ho, h.1.2⟩, hA, h.2.2.1.keep hg (by have := h.2.2.2.2.2; simp; omega), below_grown h.2.2.2.1 hg h.2.2.2.1.size h.2.2.2.2.1, h.2.2.2.2⟩
theorem PInv.rsee {w wx wy : World} {gd gr : Nat} {d d' d2 : D} (h : PInv w gd gr d d' wx) (hA : RAt wy gr d2) (ho : d2.ok) (hg : wx.grownBy wy (some gr)) : PInv w gd gr d d2 wy :=
  ⟨⟨h.1.1, ho⟩, h.2.1.keep hg (by have := h.2.2.2.2.2; simp; omega), hA, below_grown h.2.2.2.1 hg h.2.2.2.1.size (by have := h.2.2.2.2; omega), h.2.2.2.2⟩
theorem PInv.none {w wx wy : World} {gd gr : Nat} {d d' : D} (h : PInv w gd gr d d' wx) (hg : wx.grownBy wy none) : PInv w gd gr d d' wy :=
  ⟨h.1, h.2.1.keep hg (by simp), h.2.2.1.keep hg (by simp), below_none h.2.2.2.1 hg h.2.2.2.1.size, h.2.2.2.2⟩

set_option maxHeartbeats 1000000 in
set_option maxRecDepth 100000 in
theorem plays_walk (on off : Int) (l : List Op) (v : Value) (w : World) (hl : l.length ≤ 500) (h : OpsAt w l v) :
    Calls Try.prog 3 #[.int .i64 on, .int .i64 off, v] w fun e w' => e = .returned (.bool true) ∧ Below w.heap.size w w' := by
  have hv := h
  obtain ⟨A, c, rfl, hc, -⟩ := hv
  have H := Lib.hid h
  clear h
  go_enter Try.func3, Try.ntmps3
  go_wp2_with fail
  refine (head_any _).mono ?_
  rintro e w1 ⟨rfl, hb1⟩
  go_wp2_with fail
  refine (New_any on off _).mono ?_
  rintro e w2 ⟨rfl, hA2, hb2⟩
  have hs1 := hb1.size
  have hB2 := hb1.trans (hb2.mono hs1)
  have hs2 := hB2.size
  have hlt : w1.heap.size < w2.heap.size := hA2.lt
  go_wp2_with fail
  refine (RNew_any on off _).mono ?_
  rintro e w3 ⟨rfl, hR3, hb3⟩
  have hB3 := hB2.trans (hb3.mono hs2)
  have hI : PInv w w1.heap.size w2.heap.size (new on off) (new on off) w3 := ⟨⟨new_ok on off, new_ok on off⟩, (hb3.block _ hlt).trans hA2, hR3, hB3, hs1, hlt⟩
  have HI := Lib.hid hI
  clear hI hA2 hR3 hb1 hb2 hb3 hB2 hB3 hs1 hs2 hlt
  go_wp2_with fail
  go_loopw [10] (fun i wr => ∃ (k : Nat) (d : D), k ≤ l.length ∧ i = .int .i64 k ∧ PInv w w1.heap.size w2.heap.size d d wr) (fun i _ => l.length - (intOf i).toNat)
  case atStart => exact ⟨0, _, Nat.zero_le _, rfl, HI.out⟩
  case round =>
    clear HI
    obtain ⟨k, d, hk, rfl, hI⟩ := hrel
    have HI := Lib.hid hI
    clear hI
    by_cases hlt : k < l.length
    · obtain ⟨o, hx⟩ : ∃ o, l[k]? = some o := ⟨_, List.getElem?_eq_getElem hlt⟩
      obtain ⟨b, off', c', hv, hbl, hcell⟩ := H.out.at_ hx
      have e0 := hcell 0 _ rfl
      have e1 := hcell 1 _ rfl
      simp only [Nat.add_zero] at e0
      injection hv with hA e2 e3
      subst hA
      have E0 := Lib.hid e0
      have E1 := Lib.hid e1
      clear e2 e3 hcell hx e0 e1
      have h0 := (HI.out.2.2.2.1.cell (p := ⟨b, off' + k * 2, none⟩) hbl).trans E0.out
      have h1 := (HI.out.2.2.2.1.cell (p := ⟨b, off' + k * 2 + 1, none⟩) hbl).trans E1.out
      go_upto_region 9 with fail
      go_still_tail 11, (by kernel_rfl)
      have HI1 := Lib.hid HI.out.drew
      change wpList _ _ _ _ _ wr.drew
      clear h0 h1 HI
      generalize wr.drew = wa at *
      go_wp2_with fail
      refine (See_any _ d o.v o.now _ HI1.out.2.1 HI1.out.1.1).mono ?_
      rintro e wb ⟨rfl, hA, hg⟩
      have HI2 := Lib.hid (HI1.out.see hA (see_ok HI1.out.1.1 o.v o.now) hg)
      clear hA hg HI1
      have h0 := (HI2.out.2.2.2.1.cell (p := ⟨b, off' + k * 2, none⟩) hbl).trans E0.out
      have h1 := (HI2.out.2.2.2.1.cell (p := ⟨b, off' + k * 2 + 1, none⟩) hbl).trans E1.out
      go_upto_region 10 with fail
      go_still_tail 11, (by kernel_rfl)
      have HI3 := Lib.hid HI2.out.drew
      change wpList _ _ _ _ _ wb.drew
      clear h0 h1 HI2
      generalize wb.drew = wc at *
      go_wp2_with fail
      refine (RSee_any _ d o.v o.now _ HI3.out.2.2.1 HI3.out.1.2).mono ?_
      rintro e wd ⟨rfl, hA, hg⟩
      have HI4 := Lib.hid (HI3.out.rsee hA (see_ok HI3.out.1.2 o.v o.now) hg)
      clear hA hg HI3
      generalize d.see o.v o.now = d2 at *
      go_wp2_with fail
      refine (Since_any _ d2 _ HI4.out.2.1).mono ?_
      rintro e we ⟨rfl, hg⟩
      have HI5 := Lib.hid (HI4.out.none hg)
      clear hg HI4
      go_wp2_with fail
      refine (RSince_any _ d2 _ HI5.out.2.2.1 HI5.out.1.1.2.2.2.2).mono ?_
      rintro e wf ⟨rfl, rfl⟩
      go_wp2_with fail
      refine (Value_any _ d2 _ HI5.out.2.1).mono ?_
      rintro e wg ⟨rfl, rfl⟩
      go_wp2_with fail
      refine (RValue_any _ d2 _ HI5.out.2.2.1).mono ?_
      rintro e wh ⟨rfl, rfl⟩
      go_wp2_with fail
      go_roundw
      case rel => exact ⟨k + 1, d2, by omega, by go_num, HI5.out⟩
      case measure => simp [intOf]; omega
    · go_wp2_with fail
      go_ret
      exact ⟨rfl, HI.out.2.2.2.1⟩
theorem plays_big (on off : Int) (A : Option Addr) (k c : Nat) (w : World) (hl : 500 < k) :
    Calls Try.prog 3 #[.int .i64 on, .int .i64 off, .slice A k c] w fun e w' => e = .returned (.bool true) ∧ Below w.heap.size w w' := by
  go_enter Try.func3, Try.ntmps3
  go_wp2_with fail
  refine (head_any _).mono ?_
  rintro e w1 ⟨rfl, hb1⟩
  go_wp2_with fail
  refine (New_any on off _).mono ?_
  rintro e w2 ⟨rfl, hA2, hb2⟩
  have hs1 := hb1.size
  have hB2 := hb1.trans (hb2.mono hs1)
  have hs2 := hB2.size
  go_wp2_with fail
  refine (RNew_any on off _).mono ?_
  rintro e w3 ⟨rfl, hR3, hb3⟩
  have hB3 := hB2.trans (hb3.mono hs2)
  go_wp2_with fail
  go_ret
  exact ⟨rfl, hB3⟩
theorem own : ownKnob Try.prog.godebug = none := by kernel_rfl
theorem open_ops {H : Type} {enc : TypeId × Value → H} {w : World} {base : Nat} {v : Value} {d : DataW H} {p : List MemPlace} (hv : Value.okWide Try.prog w .any base 22 v)
    (h : DataW.Trod enc Try.prog w 0 (fun _ => true) true 22 v d p) : ∃ l, OpsAt w l v ∧ l.length ≤ maxLen :=
  LawFrame.open_rows Op.cells Try.underlying22 Try.underlying30 (by kernel_rfl) (by kernel_rfl) (by decide) (fun vs hd => by
    obtain ⟨n0, y0, t0⟩ := hd 0 _ rfl
    obtain ⟨n1, y1, t1⟩ := hd 1 _ rfl
    obtain ⟨b0, hb0, _⟩ := DataW.trod_bool Try.underlying4 t0
    obtain ⟨b1, hb1, _⟩ := DataW.trod_int Try.underlying2 t1
    simp only [List.cons.injEq, and_true] at hb0 hb1
    refine ⟨⟨b0, b1⟩, fun j u hu => ?_⟩
    match j, hu with
    | 0, hu => exact ⟨by decide, by rw [hb0]; simpa [Op.cells] using hu.symm⟩
    | 1, hu => exact ⟨by decide, by rw [hb1]; simpa [Op.cells] using hu.symm⟩) hv h
set_option maxRecDepth 100000 in
theorem plays_lifted (os : Os) (started : os.Started) (H : Type) (enc : TypeId × Value → H) :
    ReturnsInHanded {} Try.checked os 3 .any (Rows.delayPlaysSpec.pre6 enc Try.prog Try.f3 Rows.delayPlaysRow.domain false) (Rows.delayPlaysSpec.post enc Try.prog Try.f3 false true false false) := by
  refine LawFrame.handed (C := Try.checked) (tb := 4) (by kernel_rfl) (by kernel_rfl) (by kernel_rfl) Try.underlying4 rfl (fun ds hd => ?_) own started (by kernel_rfl) Try.func3
    (ChangeSpec.witness6 (enc := enc) (C := Try.checked) false ⟨#[], #[.int .i64 0, .int .i64 0, .slice none 0 0], []⟩ 8 (by kernel_rfl) (by kernel_rfl) (by kernel_rfl) (by kernel_rfl)) ?_
  · rw [Try.params3] at hd
    match ds, hd with
    | [d1, d2, d3], _ => rfl
  · intro W args ds before base hval hA hlt hsz
    rw [Try.params3] at hval hA
    obtain ⟨v0, vs0, d0, ds0, p0, q0, hargs, rfl, rfl, h0, r0⟩ := trodAll_cons hA
    obtain ⟨v1, vs1, d1, ds1, p1, q1, rfl, rfl, rfl, h1, r1⟩ := trodAll_cons r0
    obtain ⟨v2, vs2, d2, ds2, p2, q2, rfl, rfl, rfl, h2, r2⟩ := trodAll_cons r1
    obtain ⟨rfl, rfl, rfl⟩ := trodAll_nil r2
    obtain rfl : args = #[v0, v1, v2] := by cases args; simp_all
    obtain ⟨on, rfl, rfl, rfl, w0⟩ := open_int Try.underlying2 (hval 0 2 v0 rfl rfl) h0
    obtain ⟨off, rfl, rfl, rfl, w1⟩ := open_int Try.underlying2 (hval 1 2 v1 rfl rfl) h1
    obtain ⟨l, hl, _⟩ := open_ops (hval 2 22 v2 rfl rfl) h2
    rcases Nat.lt_or_ge 500 l.length with h5 | h5
    · obtain ⟨A, c, rfl, hc, -⟩ := hl
      exact plays_big on off A _ c W h5
    · exact plays_walk on off l v2 W h5 hl
theorem plays_holds : Rows.DelayPlaysSaid :=
  OpenClaim.holds_of_wide 3 Try.f3 rfl rfl rfl rfl rfl rfl rfl ⟨rfl, rfl, rfl, rfl, rfl⟩ rfl rfl rfl rfl rfl (by kernel_rfl) Try.func3 (by kernel_rfl)
    (of_decide_eq_true (by kernel_rfl)) (by unfold Func.isWrapper; first | (rw [if_pos (by decide +kernel)]; kernel_rfl) | (rw [if_neg (by decide +kernel)]; exact ⟨rfl, rfl⟩))
    (fun os started H enc _ => plays_lifted os started H enc)
#print axioms plays_holds
end Go.Proofs.Ytgnpoiojiocmgaa
