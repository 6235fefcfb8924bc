/-
  The program's named, walked.
-/
import Derived.Test.YtbpenoelmangkaaMatLib8
namespace Go.Proofs.Ytbpenoelmangkaa
open Go.RowKit
theorem NamesIs.box {W0 wr : World} {g n : Nat} {bx : Array Value} {l : List ByteArray} {vo : Value} (h : NamesIs W0 g bx l n vo wr) (ob : Obj) : NamesIs W0 g bx l n vo (wr.alloc ob) :=
  ⟨h.1, h.2.1.alloc _, h.2.2.1.alloc h.2.2.1.size _, h.2.2.2.alloc _⟩
set_option maxHeartbeats 4000000 in
set_option maxRecDepth 100000 in
theorem named_any (w : World) (m : Mat) (vd vp vc ve : Value) (h : MatAt w m vd vp vc ve) (hm : m.devs.length + m.pts.length + m.css.length + m.efs.length ≤ 1000) (hns : ∀ s ∈ m.names, s.size ≤ 1125899906842624) :
    Calls Try.prog 47 #[m.val vd vp vc ve] w (Tells (namesP m.names) w) := by
  have HNS := Lib.hid hns
  clear hns
  obtain ⟨i0, hi0, hz0, hz1, hz2⟩ := string_parts
  obtain ⟨r, wt, bk, cy, key, ds, ps, cs, es⟩ := m
  obtain ⟨Ad, cd, e, hcd, -⟩ := id h.1
  simp only at e
  subst e
  obtain ⟨Ap, cp, e, hcp, -⟩ := id h.2.1
  simp only at e
  subst e
  obtain ⟨Ac, cc, e, hcc, -⟩ := id h.2.2.1.1
  simp only at e
  subst e
  obtain ⟨Ae, ce, e, hce, -⟩ := id h.2.2.2.1
  simp only at e
  subst e
  have HL := Lib.hid h
  simp only at hm
  clear h
  unfold Mat.val
  simp only
  go_enter Try.func47, Try.ntmps47
  obtain ⟨bx, hbx⟩ : ∃ bx : Array Value, bx = #[.int .i64 r, .int .i64 wt, .int .i64 bk, .int .i64 cy, .string key, .slice Ad ds.length cd, .slice Ap ps.length cp, .slice Ac cs.length cc, .slice Ae es.length ce] := ⟨_, rfl⟩
  have HBX := Lib.hid hbx
  have HI : Hid (NamesIs w w.heap.size bx [] 0 (.slice none 0 0) (w.alloc (.cells bx 27))) := Lib.hid ⟨rfl, World.ownsRow_nil _ _ _ _, (Below.refl _ _).alloc (Nat.le_refl _) _, Words.Blk.new w _ _⟩
  rw [hbx] at HI
  clear hbx
  have HI0 := HI
  clear HI
  go_wp2_with fail
  have z5 : True := trivial
  clear z5
  go_loopw [3, 17] (fun o i wr => ∃ k n : Nat, k ≤ ds.length ∧ i = .int .i64 k ∧ Hid (NamesIs w w.heap.size bx (([] : List ByteArray) ++ (ds.take k).map (·.name)) n o wr)) (fun _ i _ => ds.length - (intOf i).toNat)
  case atStart => exact ⟨0, 0, Nat.zero_le _, rfl, Lib.hid (by have h := HI0.out; rw [HBX.out]; exact h)⟩
  case round =>
    clear HI0
    obtain ⟨k, n, hk, rfl, HI⟩ := hrel
    have hn : n ≤ ds.length := by have := HI.out.1; simp at this; omega
    have hk0 : (0 : Int) ≤ (k : Int) := by omega
    by_cases hlt : k < ds.length
    · obtain ⟨x, hx⟩ : ∃ x, ds[k]? = some x := ⟨_, List.getElem?_eq_getElem hlt⟩
      obtain ⟨b, off, hA, hb, hcell⟩ := row_at (LawFrame.RowsAt.below HL.out.1 HI.out.2.2.1) hx
      subst hA
      have y0 := hcell 0 _ rfl
      have y1 := hcell 1 _ rfl
      have y2 := hcell 2 _ rfl
      simp only [Nat.add_zero] at y0
      have HX := Lib.hid hx
      have hk1 : (k : Int) < (ds.length : Int) := by omega
      have hwr := HI.out.2.2.1.size
      clear hcell hx hb
      obtain ⟨n0, n1, n2⟩ := x
      simp only at y0 y1 y2
      have HO := Lib.hid (one_str n0)
      have HIb := Lib.hid (HI.out.box (.cells #[.string n0, .int .i64 n1, .int .i64 n2] 54))
      go_wp2_with (at_builtin; refine Words.wpList_append_any _ rfl (.tmp 21) (.tmp 24) _ rfl w.heap.size 9 i0 _ 1 16 Try.underlying62 hi0 hz0 hz1 hz2 rfl (by omega) u3 n _ rfl (HIb.out.2.1.alloc _) (wr.heap.size + 2) (some ⟨wr.heap.size + 1, 0, none⟩) 1 1 (sC n0) rfl (reads_str _ _ (by simp) n0 _) HO.out (by simp only [maxLen]; omega) (by omega) (by simp; omega) ?_; intro v' w2 ho hg hat; have HI2 := Lib.hid (HIb.out.app ho hg (take_next (·.name) _ _ HX.out)); clear ho hg hat HI HIb)
      go_roundw
      case rel => exact ⟨k + 1, n + 1, by omega, by go_num, HI2⟩
      case measure => simp [intOf]; omega
    · have HI0 : Hid (NamesIs w w.heap.size bx (([] : List ByteArray) ++ ds.map (·.name) ++ ([].take 0).map (fun x : Dev => x.name)) n u3 wr) := Lib.hid (by have h := HI.out; rw [List.take_of_length_le (by omega)] at h; simpa using h)
      have hk2 : ¬ (k : Int) < (ds.length : Int) := by omega
      clear HI
      have z : wr.cell? ⟨w.heap.size, 6, none⟩ = some (.slice Ap ps.length cp) := by have := HI0.out.2.2.2.cell 6; rw [HBX.out] at this; exact this
      go_wp2_with fail
      clear z
      have z6 : True := trivial
      clear z6
      go_loopw [3, 30] (fun o i wr => ∃ k n : Nat, k ≤ ps.length ∧ i = .int .i64 k ∧ Hid (NamesIs w w.heap.size bx ((([] : List ByteArray) ++ ds.map (·.name)) ++ (ps.take k).map (·.name)) n o wr)) (fun _ i _ => ps.length - (intOf i).toNat)
      case atStart => exact ⟨0, n, Nat.zero_le _, rfl, HI0⟩
      case round =>
        clear HI0
        obtain ⟨k, n, hk, rfl, HI⟩ := hrel
        have hn : n ≤ ds.length + ps.length := by have := HI.out.1; simp at this; omega
        have hk0 : (0 : Int) ≤ (k : Int) := by omega
        by_cases hlt : k < ps.length
        · obtain ⟨x, hx⟩ : ∃ x, ps[k]? = some x := ⟨_, List.getElem?_eq_getElem hlt⟩
          obtain ⟨b, off, hA, hb, hcell⟩ := row_at (LawFrame.RowsAt.below HL.out.2.1 HI.out.2.2.1) hx
          subst hA
          have y0 := hcell 0 _ rfl
          have y1 := hcell 1 _ rfl
          have y2 := hcell 2 _ rfl
          have y3 := hcell 3 _ rfl
          have y4 := hcell 4 _ rfl
          have y5 := hcell 5 _ rfl
          simp only [Nat.add_zero] at y0
          have HX := Lib.hid hx
          have hk1 : (k : Int) < (ps.length : Int) := by omega
          have hwr := HI.out.2.2.1.size
          clear hcell hx hb
          obtain ⟨n0, n1, n2, n3, n4, n5⟩ := x
          simp only at y0 y1 y2 y3 y4 y5
          have HO := Lib.hid (one_str n0)
          have HIb := Lib.hid (HI.out.box (.cells #[.string n0, .int .i64 n1, .int .i64 n2, .int .i64 n3, .int .i64 n4, .int .i64 n5] 35))
          go_wp2_with (at_builtin; refine Words.wpList_append_any _ rfl (.tmp 34) (.tmp 37) _ rfl w.heap.size 9 i0 _ 1 16 Try.underlying62 hi0 hz0 hz1 hz2 rfl (by omega) u3 n _ rfl (HIb.out.2.1.alloc _) (wr.heap.size + 2) (some ⟨wr.heap.size + 1, 0, none⟩) 1 1 (sC n0) rfl (reads_str _ _ (by simp) n0 _) HO.out (by simp only [maxLen]; omega) (by omega) (by simp; omega) ?_; intro v' w2 ho hg hat; have HI2 := Lib.hid (HIb.out.app ho hg (take_next (·.name) _ _ HX.out)); clear ho hg hat HI HIb)
          go_roundw
          case rel => exact ⟨k + 1, n + 1, by omega, by go_num, HI2⟩
          case measure => simp [intOf]; omega
        · have HI0 : Hid (NamesIs w w.heap.size bx ((([] : List ByteArray) ++ ds.map (·.name)) ++ ps.map (·.name) ++ ([].take 0).map (fun x : Dev => x.name)) n u3 wr) := Lib.hid (by have h := HI.out; rw [List.take_of_length_le (by omega)] at h; simpa using h)
          have hk2 : ¬ (k : Int) < (ps.length : Int) := by omega
          clear HI
          have z : wr.cell? ⟨w.heap.size, 7, none⟩ = some (.slice Ac cs.length cc) := by have := HI0.out.2.2.2.cell 7; rw [HBX.out] at this; exact this
          go_wp2_with fail
          clear z
          have z7 : True := trivial
          clear z7
          go_loopw [3, 43] (fun o i wr => ∃ k n : Nat, k ≤ cs.length ∧ i = .int .i64 k ∧ Hid (NamesIs w w.heap.size bx (((([] : List ByteArray) ++ ds.map (·.name)) ++ ps.map (·.name)) ++ (cs.take k).map (·.name)) n o wr)) (fun _ i _ => cs.length - (intOf i).toNat)
          case atStart => exact ⟨0, n, Nat.zero_le _, rfl, HI0⟩
          case round =>
            clear HI0
            obtain ⟨k, n, hk, rfl, HI⟩ := hrel
            have hn : n ≤ ds.length + ps.length + cs.length := by have := HI.out.1; simp at this; omega
            have hk0 : (0 : Int) ≤ (k : Int) := by omega
            by_cases hlt : k < cs.length
            · obtain ⟨x, hx⟩ : ∃ x, cs[k]? = some x := ⟨_, List.getElem?_eq_getElem hlt⟩
              obtain ⟨b, off, hA, hb, hcell⟩ := row_at (LawFrame.RowsAt.below HL.out.2.2.1.1 HI.out.2.2.1) hx
              subst hA
              have y0 := hcell 0 _ rfl
              have y1 := hcell 1 _ rfl
              have y2 := hcell 2 _ rfl
              have y3 := hcell 3 _ rfl
              have y4 := hcell 4 _ rfl
              simp only [Nat.add_zero] at y0
              have HX := Lib.hid hx
              have hk1 : (k : Int) < (cs.length : Int) := by omega
              have hwr := HI.out.2.2.1.size
              clear hcell hx hb
              obtain ⟨n0, n1, n2, n3, n4, n5⟩ := x
              simp only at y0 y1 y2 y3 y4
              obtain ⟨Ai, ci, e, hci, -⟩ := id (HL.out.2.2.1.2 _ (List.mem_of_getElem? HX.out))
              simp only at e
              subst e
              have HO := Lib.hid (one_str n0)
              have HIb := Lib.hid (HI.out.box (.cells #[.string n0, .int .i64 n1, .int .i64 n2, .int .i64 n3, .slice Ai n5.length ci] 42))
              go_wp2_with (at_builtin; refine Words.wpList_append_any _ rfl (.tmp 47) (.tmp 50) _ rfl w.heap.size 9 i0 _ 1 16 Try.underlying62 hi0 hz0 hz1 hz2 rfl (by omega) u3 n _ rfl (HIb.out.2.1.alloc _) (wr.heap.size + 2) (some ⟨wr.heap.size + 1, 0, none⟩) 1 1 (sC n0) rfl (reads_str _ _ (by simp) n0 _) HO.out (by simp only [maxLen]; omega) (by omega) (by simp; omega) ?_; intro v' w2 ho hg hat; have HI2 := Lib.hid (HIb.out.app ho hg (take_next (·.name) _ _ HX.out)); clear ho hg hat HI HIb)
              go_roundw
              case rel => exact ⟨k + 1, n + 1, by omega, by go_num, HI2⟩
              case measure => simp [intOf]; omega
            · have HI0 : Hid (NamesIs w w.heap.size bx (((([] : List ByteArray) ++ ds.map (·.name)) ++ ps.map (·.name)) ++ cs.map (·.name) ++ ([].take 0).map (fun x : Dev => x.name)) n u3 wr) := Lib.hid (by have h := HI.out; rw [List.take_of_length_le (by omega)] at h; simpa using h)
              have hk2 : ¬ (k : Int) < (cs.length : Int) := by omega
              clear HI
              have z : wr.cell? ⟨w.heap.size, 8, none⟩ = some (.slice Ae es.length ce) := by have := HI0.out.2.2.2.cell 8; rw [HBX.out] at this; exact this
              go_wp2_with fail
              clear z
              have z8 : True := trivial
              clear z8
              go_loopw [3, 56] (fun o i wr => ∃ k n : Nat, k ≤ es.length ∧ i = .int .i64 k ∧ Hid (NamesIs w w.heap.size bx ((((([] : List ByteArray) ++ ds.map (·.name)) ++ ps.map (·.name)) ++ cs.map (·.name)) ++ (es.take k).map (·.name)) n o wr)) (fun _ i _ => es.length - (intOf i).toNat)
              case atStart => exact ⟨0, n, Nat.zero_le _, rfl, HI0⟩
              case round =>
                clear HI0
                obtain ⟨k, n, hk, rfl, HI⟩ := hrel
                have hn : n ≤ ds.length + ps.length + cs.length + es.length := by have := HI.out.1; simp at this; omega
                have hk0 : (0 : Int) ≤ (k : Int) := by omega
                by_cases hlt : k < es.length
                · obtain ⟨x, hx⟩ : ∃ x, es[k]? = some x := ⟨_, List.getElem?_eq_getElem hlt⟩
                  obtain ⟨b, off, hA, hb, hcell⟩ := row_at (LawFrame.RowsAt.below HL.out.2.2.2.1 HI.out.2.2.1) hx
                  subst hA
                  have y0 := hcell 0 _ rfl
                  have y1 := hcell 1 _ rfl
                  have y2 := hcell 2 _ rfl
                  have y3 := hcell 3 _ rfl
                  have y4 := hcell 4 _ rfl
                  simp only [Nat.add_zero] at y0
                  have HX := Lib.hid hx
                  have hk1 : (k : Int) < (es.length : Int) := by omega
                  have hwr := HI.out.2.2.1.size
                  clear hcell hx hb
                  obtain ⟨n0, n1, n2, n3, n4, n5⟩ := x
                  simp only at y0 y1 y2 y3 y4
                  obtain ⟨Ai, ci, e, hci, -⟩ := id (HL.out.2.2.2.2 _ (List.mem_of_getElem? HX.out))
                  simp only at e
                  subst e
                  have HO := Lib.hid (one_str n0)
                  have HIb := Lib.hid (HI.out.box (.cells #[.string n0, .int .i64 n1, .int .i64 n2, .int .i64 n3, .slice Ai n5.length ci] 39))
                  go_wp2_with (at_builtin; refine Words.wpList_append_any _ rfl (.tmp 60) (.tmp 63) _ rfl w.heap.size 9 i0 _ 1 16 Try.underlying62 hi0 hz0 hz1 hz2 rfl (by omega) u3 n _ rfl (HIb.out.2.1.alloc _) (wr.heap.size + 2) (some ⟨wr.heap.size + 1, 0, none⟩) 1 1 (sC n0) rfl (reads_str _ _ (by simp) n0 _) HO.out (by simp only [maxLen]; omega) (by omega) (by simp; omega) ?_; intro v' w2 ho hg hat; have HI2 := Lib.hid (HIb.out.app ho hg (take_next (·.name) _ _ HX.out)); clear ho hg hat HI HIb)
                  go_roundw
                  case rel => exact ⟨k + 1, n + 1, by omega, by go_num, HI2⟩
                  case measure => simp [intOf]; omega
                · have HI0 : Hid (NamesIs w w.heap.size bx ((((([] : List ByteArray) ++ ds.map (·.name)) ++ ps.map (·.name)) ++ cs.map (·.name)) ++ es.map (·.name) ++ ([].take 0).map (fun x : Dev => x.name)) n u3 wr) := Lib.hid (by have h := HI.out; rw [List.take_of_length_le (by omega)] at h; simpa using h)
                  have hk2 : ¬ (k : Int) < (es.length : Int) := by omega
                  clear HI
                  have HF : Hid (NamesIs w w.heap.size bx (Mat.names ⟨r, wt, bk, cy, key, ds, ps, cs, es⟩) n u3 wr) := Lib.hid (by have h := HI0.out; simpa [Mat.names] using h)
                  clear HI0
                  have hNl : (Mat.names ⟨r, wt, bk, cy, key, ds, ps, cs, es⟩).length ≤ 1000 := by simp [Mat.names]; omega
                  obtain ⟨N, hN⟩ : ∃ N, N = Mat.names ⟨r, wt, bk, cy, key, ds, ps, cs, es⟩ := ⟨_, rfl⟩
                  have HV : Hid (StrsAt wr N u3 ∧ Below w.heap.size w wr) := Lib.hid (by rw [hN]; exact ⟨LawFrame.RowsAt.of_own sC_len (by decide) HF.out.2.1, HF.out.2.2.1⟩)
                  rw [← hN] at hNl
                  have HN := Lib.hid hN
                  clear hN HF
                  obtain ⟨Au, cu, e, hcu, -⟩ := id HV.out.1
                  subst e
                  go_wp2_with fail
                  obtain ⟨wo, hwo⟩ : ∃ wo : World, wo = wr := ⟨_, rfl⟩
                  have HWO := Lib.hid hwo
                  clear hwo
                  go_loopw [68] (fun i wr => ∃ k : Nat, k ≤ N.length ∧ i = .int .i64 k ∧ Hid (Upto (fun _ s => wordB s = true) N k) ∧ Hid (wo = wr)) (fun i _ => N.length - (intOf i).toNat)
                  case atStart => exact ⟨0, Nat.zero_le _, rfl, Lib.hid (upto_zero _ _), HWO⟩
                  case round =>
                    have HV2 : Hid (StrsAt wo N (.slice Au N.length cu) ∧ Below w.heap.size w wo) := Lib.hid (by rw [HWO.out]; exact HV.out)
                    clear HV HWO
                    obtain ⟨k, hk, rfl, HU, HW⟩ := hrel
                    by_cases hlt : k < N.length
                    · obtain ⟨x, hx⟩ : ∃ x, N[k]? = some x := ⟨_, List.getElem?_eq_getElem hlt⟩
                      obtain ⟨b, off, hA, hcell⟩ := one_at HV2.out.1 hx
                      subst hA
                      rw [HW.out] at hcell
                      have y0 := hcell _ rfl
                      have HX := Lib.hid hx
                      have HXS := Lib.hid (HNS.out x (by rw [← HN.out]; exact List.mem_of_getElem? hx))
                      have hk1 : (k : Int) < (N.length : Int) := by omega
                      have hk0 : (0 : Int) ≤ (k : Int) := by omega
                      clear hx hcell
                      go_wp2_with fail
                      refine (lWord_any _ x HXS.out).mono ?_
                      rintro e w1 ⟨rfl, rfl⟩
                      have HNO : Hid (¬ wordB x = true → ¬ namesP N) := Lib.hid (fun hn hp => hn (hp k x HX.out).2)
                      have HP : Hid (wordB x = true → Upto (fun _ s => wordB s = true) N (k + 1)) := Lib.hid (fun hp => upto_step HU.out HX.out hp)
                      generalize wordB x = bw at *
                      cases bw with
                      | false =>
                        go_wp2_with fail
                        go_ret
                        exact tells_no (by rw [← HN.out]; exact HNO.out (by simp)) (by rw [← HW.out]; exact HV2.out.2)
                      | true =>
                        go_wp2_with fail
                        go_roundw
                        case rel => exact ⟨k + 1, by omega, by go_num, Lib.hid (HP.out (by simp)), HW⟩
                        case measure => simp [intOf]; omega
                    · have hkl : k = N.length := by omega
                      have HA := Lib.hid (upto_all (by rw [← hkl]; exact HU.out))
                      clear hkl
                      have hk2 : ¬ (k : Int) < (N.length : Int) := by omega
                      go_wp2_with fail
                      refine (twinsS_any wr N _ (by rw [← HW.out]; exact HV2.out.1) (by omega)).mono ?_
                      rintro e w3 ⟨b, rfl, hb, hB⟩
                      have hV := HV2.out.2
                      rw [HW.out] at hV
                      have HB := Lib.hid (hV.trans (hB.mono hV.size))
                      have HS : Hid ((!b) = true ↔ namesP (Mat.names ⟨r, wt, bk, cy, key, ds, ps, cs, es⟩)) := Lib.hid (by
                        have h2 := HA.out
                        rw [← HN.out]
                        constructor
                        · intro hn
                          have hb' : ¬ b = true := by cases b <;> simp at hn ⊢
                          have h4 := Classical.not_not.1 (fun n => hb' (hb.2 n))
                          exact fun i y hy => ⟨h4 i y hy, h2 i y hy⟩
                        · intro hp
                          cases b with
                          | false => rfl
                          | true => exact absurd (fun i y hy => (hp i y hy).1) (hb.1 rfl))
                      clear hb hB hV
                      go_wp2_with fail
                      go_ret
                      exact ⟨_, rfl, HS.out, HB.out⟩
end Go.Proofs.Ytbpenoelmangkaa
