/-
  MbapMany: frames of so many bytes are so many more, by seven; each has its own number, unit and bytes. For every number, unit and row of sizes.
-/
import Derived.Test.YthcgomfejibkhaaMbapBackPlain
import Derived.Deep.QuietTactic
import Derived.BigQuiet
namespace Go.Proofs.Ythcgomfejibkhaa
open Go.RowKit Go.ChangeShapes Go.WideShapes Mbap

theorem Acc.store {W2 W : World} {xs : List UInt8} {v : Value} {g : Nat} (h : Acc W2 W xs v) (hg : W2.heap.size ≤ g) (hne : v.ownBlock ≠ some g) (u : Value) : Acc W2 (W.setCell ⟨g, 0, none⟩ u) xs v :=
  ⟨h.1.kept (grownBy_setCell' W g u) (.inr hne), h.2.setCell (p := ⟨g, 0, none⟩) hg u⟩
/-- how many bytes frame k has -/
def sizeAt (sizes : List UInt8) (k : Nat) : Nat := at_ sizes k % 253
/-- frame k -/
def mk (id : Nat) (unit : UInt8) (sizes : List UInt8) (k : Nat) : Adu := ⟨(id + k) % 65536, unit, UInt8.ofNat k :: List.replicate (sizeAt sizes k) 0⟩
def mks (id : Nat) (unit : UInt8) (sizes : List UInt8) (n : Nat) : List Adu := (List.range n).map (mk id unit sizes)
theorem mks_succ (id : Nat) (unit : UInt8) (sizes : List UInt8) (k : Nat) : mks id unit sizes (k + 1) = mks id unit sizes k ++ [mk id unit sizes k] := by simp [mks, List.range_succ]
theorem mks_len (id : Nat) (unit : UInt8) (sizes : List UInt8) (k : Nat) : (mks id unit sizes k).length = k := by simp [mks]
theorem mk_fine (id : Nat) (unit : UInt8) (sizes : List UInt8) (k : Nat) : fine (mk id unit sizes k) = true := by
  have : sizeAt sizes k < 253 := Nat.mod_lt _ (by omega)
  simp [fine, mk]; omega
theorem mk_len (id : Nat) (unit : UInt8) (sizes : List UInt8) (k : Nat) : (mk id unit sizes k).pdu.length = 1 + sizeAt sizes k := by simp [mk]; omega
theorem mks_put_len (id : Nat) (unit : UInt8) (sizes : List UInt8) (k : Nat) : ((mks id unit sizes k).flatMap put).length ≤ 300 * k := by
  induction k with
  | zero => simp [mks]
  | succ k ih =>
    have : sizeAt sizes k < 253 := Nat.mod_lt _ (by omega)
    rw [mks_succ, List.flatMap_append, List.length_append]
    simp only [List.flatMap_cons, List.flatMap_nil, List.append_nil]
    rw [put_fine_len (mk_fine _ _ _ _), mk_len]
    omega
def total (id : Nat) (unit : UInt8) (sizes : List UInt8) (k : Nat) : Nat := ((mks id unit sizes k).flatMap put).length
theorem total_succ (id : Nat) (unit : UInt8) (sizes : List UInt8) (k : Nat) : total id unit sizes (k + 1) = total id unit sizes k + (1 + sizeAt sizes k) + 7 := by
  unfold total
  rw [mks_succ, List.flatMap_append, List.length_append]
  simp only [List.flatMap_cons, List.flatMap_nil, List.append_nil]
  rw [put_fine_len (mk_fine _ _ _ _), mk_len]
  omega
theorem mks_cut (id : Nat) (unit : UInt8) (sizes : List UInt8) (k : Nat) : cut ((mks id unit sizes k).flatMap put) = (mks id unit sizes k, ((mks id unit sizes k).flatMap put).length, 0) := by
  refine cut_puts _ (fun f hf => ?_)
  obtain ⟨i, -, rfl⟩ := List.mem_map.1 hf
  exact ⟨mk_fine _ _ _ _, Nat.mod_lt _ (by omega)⟩
theorem many_big (id u : Int) (A : Option Addr) (n c : Nat) (w : World) (h : 60 < n) :
    Calls Try.prog 8 #[.int .u16 id, .int .u8 u, .slice A n c] w fun e w' => e = .returned (.bool true) ∧ Below w.heap.size w w' := by
  go_enter Try.func8, Try.ntmps8
  go_wp2_with fail
  refine (head_any _).mono ?_
  rintro e w1 ⟨rfl, hb1⟩
  go_wp2_with fail
  go_ret
  exact ⟨rfl, hb1⟩
theorem many_cell {W : World} {g n : Nat} (h : W.heap[g]? = some (.cells (List.replicate (1 + n) (Value.int .u8 0)).toArray 5 (0, 0))) : W.cell? ⟨g, 0, none⟩ = some (.int .u8 0) := by
  rw [cell_of_row W g 0 _ _ _ h, List.getElem?_toArray, List.getElem?_replicate, if_pos (by omega)]
theorem wrap_u16_add (id k : Nat) : IntKind.u16.wrap ((id : Int) + (k : Int)) = (((id + k) % 65536 : Nat) : Int) := by
  rw [IntKind.wrap_u16]; omega
theorem many_put {W : World} {g n : Nat} (id : Nat) (unit : UInt8) (sizes : List UInt8) (k : Nat) (hk : k < 256) (hn : sizeAt sizes k = n) (h : W.heap[g]? = some (.cells (List.replicate (1 + n) (Value.int .u8 0)).toArray 5 (0, 0))) :
    Calls Try.prog 15 #[.agg #[.int .u16 (IntKind.u16.wrap ((id : Int) + (k : Int))), .int .u8 (unit.toNat : Int), .slice (some ⟨g, 0, none⟩) (1 + n) (1 + n)]] (W.setCell ⟨g, 0, none⟩ (.int .u8 (k : Int)))
      fun e w' => BytesOwn (W.setCell ⟨g, 0, none⟩ (.int .u8 (k : Int))).heap.size (put (mk id unit sizes k)) e w' ∧ Below (W.setCell ⟨g, 0, none⟩ (.int .u8 (k : Int))).heap.size (W.setCell ⟨g, 0, none⟩ (.int .u8 (k : Int))) w' := by
  have hl : (mk id unit sizes k).pdu.length = 1 + n := by rw [mk_len, hn]
  have h2 := heap_setCell_same W g 0 _ 5 (.int .u8 (k : Int)) h
  have hb : BytesAt (W.setCell ⟨g, 0, none⟩ (.int .u8 (k : Int))) (mk id unit sizes k).pdu (.slice (some ⟨g, 0, none⟩) (1 + n) (1 + n)) := by
    refine ⟨_, 1 + n, by rw [hl], by omega, fun _ => ⟨g, 0, rfl, (Array.getElem?_eq_some_iff.1 h2).1, fun i x hi d u hu => ?_⟩⟩
    rcases d with _ | d
    · simp only [byteV, List.getElem?_cons_zero, Option.some.injEq] at hu
      subst hu
      have : (⟨g, 0 + i * 1 + 0, none⟩ : Addr) = ⟨g, i, none⟩ := by simp
      rw [this, cell_of_row _ g i _ _ _ h2]
      have hk' : (UInt8.ofNat k).toNat = k := by simp; omega
      simp only [mk, hn] at hi
      rcases i with _ | i
      · simp only [List.getElem?_cons_zero, Option.some.injEq] at hi
        subst hi
        rw [hk', Array.getElem?_setIfInBounds, if_pos rfl, if_pos (by simp; omega)]
      · simp only [List.getElem?_cons_succ, List.getElem?_replicate] at hi
        split at hi
        · simp only [Option.some.injEq] at hi
          subst hi
          rw [Array.getElem?_setIfInBounds_ne (by omega), List.getElem?_toArray, List.getElem?_replicate, if_pos (by omega)]
          rfl
        · cases hi
    · simp [byteV] at hu
  have := Put_own (mk id unit sizes k) _ _ hb (Nat.mod_lt _ (by omega)) (by rw [hl]; have : sizeAt sizes k < 253 := Nat.mod_lt _ (by omega); omega)
  rw [wrap_u16_add]
  exact this
set_option maxRecDepth 100000 in
set_option maxHeartbeats 4000000 in
theorem many_walk (id : Nat) (unit : UInt8) (sizes : List UInt8) (v : Value) (w : World) (hl : sizes.length ≤ 60) (hb : BytesAt w sizes v) :
    Calls Try.prog 8 #[.int .u16 id, .int .u8 (unit.toNat : Int), v] w fun e w' => e = .returned (.bool true) ∧ Below w.heap.size w w' := by
  obtain ⟨i0, hi0, hz0, hz1, hz2⟩ := info_parts u8_info
  have hd0 : decide ((60 : Int) < (sizes.length : Int)) = false := decide_eq_false (by omega)
  obtain ⟨A, c, rfl, hc, -⟩ := hb.reads
  have HB := Lib.hid hb
  clear hb
  go_enter Try.func8, Try.ntmps8
  go_wp2_with fail
  refine (head_any _).mono ?_
  rintro e w1 ⟨rfl, hb1⟩
  have HX1 := Lib.hid hb1
  clear hb1
  go_wp2_with fail
  go_loopw [8, 9, 10] (fun v8 n i wr => ∃ k : Nat, k ≤ sizes.length ∧ i = .int .i64 k ∧ n = .int .i64 (total id unit sizes k : Nat) ∧ Hid (Acc w1 wr ((mks id unit sizes k).flatMap put) v8)) (fun _ _ i _ => sizes.length - (intOf i).toNat)
  case atStart => exact ⟨0, Nat.zero_le _, rfl, rfl, Acc.start w1⟩
  case round =>
    obtain ⟨k, hk2, rfl, rfl, HA⟩ := hrel
    have HW := Lib.hid (HX1.out.trans (HA.out.2.mono HX1.out.size))
    by_cases hlt : k < sizes.length
    · obtain ⟨g, off, c', hv, hg, hx⟩ := (BytesAt.byte (LawFrame.RowsAt.below HB.out HW.out) (i := 0) (by omega))
      injection hv with hA _ hcc
      subst hA
      subst hcc
      have x0 := hx k hlt
      have hs := at_lt sizes k
      have HSA := Lib.hid (show sizeAt sizes k = at_ sizes k % 253 from rfl)
      have hbl : total id unit sizes k ≤ 300 * k := mks_put_len id unit sizes k
      have HTS := Lib.hid (total_succ id unit sizes k)
      have HST := Lib.hid (mks_succ id unit sizes k)
      clear hx hg
      generalize at_ sizes k = s at *
      have hk1 : (k : Int) < (sizes.length : Int) := by omega
      have HM := Lib.hid (show (1 + (s : Int) % 253) = ((1 + s % 253 : Nat) : Int) by omega)
      have hm0 : (0 : Int) < 1 + (s : Int) % 253 := by omega
      have hm1 : s % 253 < 253 := Nat.mod_lt _ (by omega)
      generalize htk : total id unit sizes k = tk at *
      have HTK := Lib.hid htk
      clear htk
      go_wp2_with (at_make; refine wpList_make_full _ rfl (.tmp 35) (.tmp 35) 22 rfl wr.heap.size 5 i0 _ 1 Try.underlying22 hi0 hz0 hz1 .i64 .i64 _ _ (1 + s % 253) rfl rfl HM.out HM.out (by rw [hz2]; omega) (by simp only [maxLen]; omega) (Nat.le_refl _) ?_; intro w4 hO4 hg4; have hM4 := made_block rfl hO4; have hb4 : Below wr.heap.size wr w4 := Below.grown (Below.refl _ _) hg4 (Nat.le_refl _) (fun k hk => by cases hk); have y0 : w4.cell? ⟨wr.heap.size, 0, none⟩ = some (.int .u8 0) := many_cell hM4; have y1 : w4.frozen? ⟨wr.heap.size, 0, none⟩ = false := frozen_of_row _ _ _ _ _ hM4; have HM4 := Lib.hid hM4; have HB4 := Lib.hid hb4; clear hO4 hg4 hM4 hb4)
      refine (many_put id unit sizes k (by omega) HSA.out HM4.out).mono ?_
      rintro e w5 ⟨⟨v5, rfl, hv5, -⟩, hb5⟩
      have HA5 := Lib.hid (((HA.out.below HB4.out).store HA.out.2.size (fun e => by have := (HA.out.1.lt _ e).2; omega) (.int .u8 (k : Int))).below hb5)
      obtain ⟨A5, c5, rfl, hc5, hr5⟩ := hv5.reads
      have HR5 := Lib.hid hr5
      have HO5 := Lib.hid (one_bytes (put (mk id unit sizes k)))
      have hpl : (put (mk id unit sizes k)).length ≤ 300 := by rw [put_fine_len (mk_fine _ _ _ _), mk_len, HSA.out]; omega
      have hsz : w1.heap.size ≤ w5.heap.size := HA5.out.2.size
      have HTK2 := Lib.hid (show total id unit sizes (k + 1) = tk + (1 + s % 253) + 7 by rw [HTS.out, HSA.out])
      have HXL := Lib.hid (show ((mks id unit sizes k).flatMap put).length = tk from HTK.out)
      clear hv5 hr5 hb5 HA HM4 HB4 y0 y1 HTS
      generalize hxs : (mks id unit sizes k).flatMap put = xs at *
      generalize hys : put (mk id unit sizes k) = ys at *
      have HXS := Lib.hid hxs
      have HYS := Lib.hid hys
      clear hxs hys
      have hxl2 : xs.length ≤ 300 * k := by rw [HXL.out]; omega
      go_wp2_with (at_builtin; refine Words.wpList_append_any _ rfl (.tmp 41) (.tmp 49) _ rfl w1.heap.size 5 i0 _ 1 1 Try.underlying22 hi0 hz0 hz1 hz2 rfl (by omega) _ xs.length (xs.map bV) rfl HA5.out.1 w5.heap.size A5 ys.length c5 (ys.map bV) rfl HR5.out HO5.out (by simp only [maxLen]; omega) (by omega) hsz ?_; intro v6 w6 ho6 hg6 _; have HA6 := Lib.hid (HA5.out.more ho6 hg6); clear ho6 hg6)
      go_roundw
      case rel => exact ⟨k + 1, by omega, by go_num, by rw [HTK2.out]; go_num, by rw [HST.out, List.flatMap_append]; simp only [List.flatMap_cons, List.flatMap_nil, List.append_nil]; rw [HXS.out, HYS.out]; exact HA6.out⟩
      case measure => simp [intOf]; omega
    · have hkl : k = sizes.length := by omega
      have HCC := Lib.hid (mks_cut id unit sizes sizes.length)
      have HLL := Lib.hid (mks_len id unit sizes sizes.length)
      have hbl : total id unit sizes sizes.length ≤ 300 * sizes.length := mks_put_len id unit sizes sizes.length
      have HTL := Lib.hid (show ((mks id unit sizes sizes.length).flatMap put).length = total id unit sizes sizes.length from rfl)
      subst hkl
      have HGET := Lib.hid (fun k (hk : k < (mks id unit sizes sizes.length).length) => show (mks id unit sizes sizes.length)[k] = mk id unit sizes k by simp [mks])
      have hby := HA.out.bytes
      have HBY := Lib.hid hby
      obtain ⟨A8, c8, h8, -, -⟩ := hby
      subst h8
      generalize hxs : (mks id unit sizes sizes.length).flatMap put = xs at *
      generalize htt : total id unit sizes sizes.length = tt at *
      generalize hfs : mks id unit sizes sizes.length = fs at *
      clear hxs htt hfs HA
      rw [HTL.out] at HBY ⊢
      go_wp2_with fail
      refine (Cut_any xs _ wr HBY.out (by have := HTL.out; omega)).mono ?_
      rintro e w2 ⟨⟨A2, c2, rfl, hF2, -⟩, hb2⟩
      have HX2 := Lib.hid (HW.out.trans (hb2.mono HW.out.size))
      rw [HCC.out] at hF2
      rw [HCC.out]
      dsimp only at hF2 ⊢
      rw [HTL.out, HLL.out, show ((0 : Nat) : Int) = 0 from rfl]
      have HF2 := Lib.hid hF2
      clear hF2 hb2 HW HBY
      go_wp2_with fail
      go_loopw [16] (fun i wr => ∃ k : Nat, k ≤ sizes.length ∧ i = .int .i64 k ∧ Hid (Below w2.heap.size w2 wr)) (fun i _ => sizes.length - (intOf i).toNat)
      case atStart => exact ⟨0, Nat.zero_le _, rfl, Below.refl _ _⟩
      case round =>
        obtain ⟨k, hk2, rfl, HW⟩ := hrel
        by_cases hlt : k < sizes.length
        · obtain ⟨g1, o1, d1, B1, e1, hv1, hc1, hg1, x0, x1, x2, xb, -, -⟩ := frame_at (HF2.out.below HW.out) (k := k) (by rw [HLL.out]; exact hlt)
          injection hv1 with hA1 _ hd1
          subst hA1
          subst hd1
          rw [HGET.out k (by rw [HLL.out]; exact hlt)] at x0 x1 x2 xb
          obtain ⟨gp, op, cp, hvp, hgp, hxp⟩ := xb.byte (i := 0) (by rw [mk_len]; omega)
          injection hvp with hAp _ hcp
          subst hAp
          subst hcp
          have xp : wr.cell? ⟨gp, op, none⟩ = some (.int .u8 (k : Int)) := by
            have := hxp 0 (by rw [mk_len]; omega)
            rw [Nat.add_zero] at this
            rw [this]
            have hk' : (UInt8.ofNat k).toNat = k := by simp; omega
            simp [at_, mk, hk']
          obtain ⟨gs, os, cs, hvs, -, hxs⟩ := BytesAt.byte (LawFrame.RowsAt.below HB.out (HX2.out.trans (HW.out.mono HX2.out.size))) (i := 0) (by omega)
          injection hvs with hAs _ hcs
          subst hAs
          subst hcs
          have xs' := hxs k hlt
          have HS3 := Lib.hid (show (mk id unit sizes k).pdu.length = 1 + at_ sizes k % 253 from mk_len _ _ _ _)
          have HID := Lib.hid (wrap_u16_add id k)
          rw [HS3.out] at x2
          have x0' : wr.cell? ⟨g1, o1 + k * 3, none⟩ = some (.int .u16 (((id + k) % 65536 : Nat) : Int)) := x0
          have x1' : wr.cell? ⟨g1, o1 + k * 3 + 1, none⟩ = some (.int .u8 (unit.toNat : Int)) := x1
          have hs := at_lt sizes k
          clear hxs hxp x0 x1 xb hgp hg1
          have hk1 : (k : Int) < (sizes.length : Int) := by omega
          have hk0 : (0 : Int) ≤ (k : Int) := by omega
          have hwr : IntKind.u16.wrap ((id : Int) + (k : Int)) = (((id + k) % 65536 : Nat) : Int) := HID.out
          generalize (id + k) % 65536 = i2 at *
          generalize at_ sizes k = s at *
          have hm0 : (0 : Int) < ((1 + s % 253 : Nat) : Int) := by omega
          have hm1 : s % 253 < 253 := Nat.mod_lt _ (by omega)
          go_wp2_with fail
          go_quiet (fail)
          go_wp2_with fail
          go_roundw
          case rel => exact ⟨k + 1, by omega, by go_num, ⟨HW.out.os, HW.out.tape, HW.out.output, HW.out.size, HW.out.block⟩⟩
          case measure => simp [intOf]; omega
        · go_wp2_with fail
          go_ret
          exact ⟨rfl, HX2.out.trans (HW.out.mono HX2.out.size)⟩
theorem own : ownKnob Try.prog.godebug = none := by kernel_rfl
set_option maxRecDepth 100000 in
theorem mbapMany_lifted (os : Os) (started : os.Started) (H : Type) (enc : TypeId × Value → H) :
    ReturnsInHanded {} Try.checked os 8 .any (Rows.mbapManySpec.pre6 enc Try.prog Try.f8 Rows.mbapManyRow.domain false) (Rows.mbapManySpec.post enc Try.prog Try.f8 false true false false) := by
  refine LawFrame.handed (C := Try.checked) (tb := 4) (by kernel_rfl) (by kernel_rfl) (by kernel_rfl) Try.underlying4 rfl (fun ds hd => ?_) own started (by kernel_rfl) Try.func8
    (ChangeSpec.witness6 (enc := enc) (C := Try.checked) false ⟨#[], #[.int .u16 0, .int .u8 0, .slice none 0 0], []⟩ 8 (by kernel_rfl) (by kernel_rfl) (by kernel_rfl) (by kernel_rfl)) ?_
  · rw [Try.params8] at hd
    match ds, hd with
    | [d1, d2, d3], _ => rfl
  · intro W args ds before base hval hA hlt hsz
    rw [Try.params8] at hval hA
    obtain ⟨v0, vs0, d0, ds0, p0, q0, hargs, rfl, rfl, h0, r0⟩ := trodAll_cons hA
    obtain ⟨v1, vs1, d1, ds1, p1, q1, rfl, rfl, rfl, h1, r1⟩ := trodAll_cons r0
    obtain ⟨v2, vs2, d2, ds2, p2, q2, rfl, rfl, rfl, h2, r2⟩ := trodAll_cons r1
    obtain ⟨rfl, rfl, rfl⟩ := trodAll_nil r2
    obtain rfl : args = #[v0, v1, v2] := by cases args; simp_all
    obtain ⟨idI, rfl, rfl, rfl, w0⟩ := open_int Try.underlying24 (hval 0 24 v0 rfl rfl) h0
    obtain ⟨uI, rfl, rfl, rfl, w1⟩ := open_int Try.underlying5 (hval 1 5 v1 rfl rfl) h1
    obtain ⟨l, hl, _⟩ := LawFrame.open_bytes Try.underlying22 Try.underlying5 (by kernel_rfl) (hval 2 22 v2 rfl rfl) h2
    by_cases h5 : 60 < l.length
    · obtain ⟨A, c, rfl, hc, -⟩ := hl
      exact many_big idI uI A _ c W h5
    · obtain ⟨g0, g1⟩ := bounds_u16 w0
      obtain ⟨g2, g3⟩ := bounds_u8 w1
      have e0 : ((idI.toNat : Nat) : Int) = idI := by omega
      have e1 : (((UInt8.ofNat uI.toNat).toNat : Nat) : Int) = uI := by rw [UInt8.toNat_ofNat']; omega
      rw [← e0, ← e1]
      exact many_walk idI.toNat (UInt8.ofNat uI.toNat) l v2 W (by omega) hl
theorem mbapMany_holds : Rows.MbapManySaid :=
  OpenClaim.holds_of_wide 8 Try.f8 rfl rfl rfl rfl rfl rfl rfl ⟨rfl, rfl, rfl, rfl, rfl⟩ rfl rfl rfl rfl rfl (by kernel_rfl) Try.func8 (by kernel_rfl)
    (of_decide_eq_true (by kernel_rfl)) (by unfold Func.isWrapper; first | (rw [if_pos (by decide +kernel)]; kernel_rfl) | (rw [if_neg (by decide +kernel)]; exact ⟨rfl, rfl⟩))
    (fun os started H enc _ => mbapMany_lifted os started H enc)
#print axioms mbapMany_holds
end Go.Proofs.Ythcgomfejibkhaa
