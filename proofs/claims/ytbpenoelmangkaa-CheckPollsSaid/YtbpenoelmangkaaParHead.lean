/-
  The document's Parse of the fixed text, walked.
-/
import Derived.Test.YtbpenoelmangkaaParParse
namespace Go.Proofs.Ytbpenoelmangkaa
open Go.RowKit
theorem results_cell3 {P : Program} {fn : Func} {p u v : Tmp} {ty : TypeId} (h : fn.results = #[.cell p ty, .tmp u, .tmp v]) (tmps : Array Value) (w : World) (g : Nat) (t : TypeId) (cs : Array Value) (fr : Nat × Nat) (d : TypeDesc)
    (hp : tmps.getD p undef = .pointer (some ⟨g, 0, none⟩)) (hg : w.heap[g]? = some (.cells cs t fr))
    (hu : P.underlying ty = some d) (hd : (match d with | .struct _ | .array _ _ => true | _ => false) = true) (hi : (P.info? ty).map (·.size) = some cs.size) :
    (results fn tmps).run P w = .ok (.tuple #[.agg cs, tmps.getD u undef, tmps.getD v undef]) w := by
  have hp' : tmps[p]?.getD undef = .pointer (some ⟨g, 0, none⟩) := by simpa using hp
  simp [results, h, hp', asAddr, run_loadVar_row w g t ty cs fr d hg hu hd hi]
def zeroMV : Array Value := #[.int .i64 0, .int .i64 0, .int .i64 0, .int .i64 0, .string (ByteArray.mk #[]), .slice none 0 0, .slice none 0 0, .slice none 0 0, .slice none 0 0]
/-- the fixed text's matrix is told -/
def ParsedIs (w : World) (e : Ending) (w' : World) : Prop := ∃ v1 v2 vd vp vc ve, e = .returned (.tuple #[(stageM v1 v2 7).val vd vp vc ve, .int .i64 0, .int .i64 0]) ∧ MatAt w' (stageM v1 v2 7) vd vp vc ve ∧ Below w.heap.size w w'
theorem stage_zero (W : World) (v1 v2 : Value) : PS W W.heap.size (stageM v1 v2 0) (decide (1 ≤ 0)) (decide (2 ≤ 0)) (.slice none 0 0) (.slice none 0 0) (.slice none 0 0) (.slice none 0 0) (W.alloc (.cells #[.int .i64 0, .int .i64 0, .int .i64 0, .int .i64 0, .string (ByteArray.mk #[]), .slice none 0 0, .slice none 0 0, .slice none 0 0, .slice none 0 0, .bool false, .bool false, .int .i64 0] 76)) :=
  ⟨⟨Words.Blk.new W _ _, Nat.le_refl _, World.ownsRow_nil _ _ _ _, World.ownsRow_nil _ _ _ _, World.ownsRow_nil _ _ _ _, World.ownsRow_nil _ _ _ _, fun c hc => (by cases hc), fun c hc => (by cases hc)⟩, (Below.refl _ _).alloc (Nat.le_refl _) _⟩
theorem grown_setRow (W : World) (g : Nat) (cs : Array Value) : W.grownBy (W.setRow g cs) (some g) :=
  ⟨rfl, rfl, rfl, by rw [setRow_size]; exact Nat.le_refl _, fun i _ hi => setRow_other W g i cs (fun e => hi (by rw [e]))⟩
theorem setRow_below {B g : Nat} {w w' : World} {cs : Array Value} (h : Below B w w') (hg : B ≤ g) : Below B w (w'.setRow g cs) :=
  ⟨h.os, h.tape, h.output, by rw [setRow_size]; exact h.size, fun k hk => by rw [setRow_other w' g k cs (by omega)]; exact h.block k hk⟩
set_option maxHeartbeats 4000000 in
set_option maxRecDepth 100000 in
theorem parse_any (w : World) : Calls Try.prog 19 #[.string textB] w (ParsedIs w) := by
  have HQ : Hid (Below w.heap.size w (w.alloc (.cells zeroMV 27)) ∧ Words.Blk (w.alloc (.cells zeroMV 27)) w.heap.size 27 zeroMV) := Lib.hid ⟨(Below.refl _ _).alloc (Nat.le_refl _) _, Words.Blk.new w _ _⟩
  obtain ⟨T, hT⟩ : ∃ T, T = textB := ⟨_, rfl⟩
  have HT := Lib.hid hT
  rw [← hT]
  clear hT
  unfold zeroMV at HQ
  go_enter Try.func19, Try.ntmps19
  go_wp2_with fail
  refine (lines_any _ T (by rw [HT.out]; exact text_ok)).mono ?_
  rintro e w1 ⟨v, n, rfl, hl⟩
  rw [HT.out, text_lines] at hl
  obtain ⟨xs, h1, h2, h3, h4, h5⟩ := hl
  have hxl : xs.length = 7 := by
    have := congrArg List.length h2
    rw [List.length_map] at this
    rw [this]; rfl
  obtain rfl : n = 7 := by omega
  obtain ⟨A, c, e⟩ := own_form h3
  subst e
  have HB1 : Hid (Below w.heap.size w w1 ∧ Words.Blk w1 w.heap.size 27 zeroMV) := Lib.hid ⟨HQ.out.1.trans (h5.mono HQ.out.1.size), HQ.out.2.below h5 HQ.out.2.lt⟩
  have HXS := Lib.hid h2
  have HOW := Lib.hid (show LawFrame.RowsAt w1 2 Ln.cells xs (.slice A 7 c) from LawFrame.RowsAt.of_own Ln.cells_len (by decide) h3)
  have HWS := Lib.hid h4
  have HS0 := Lib.hid (stage_zero w1 undef undef)
  clear h1 h2 h3 h4 h5 HQ
  go_wp2_with fail
  go_loopw [9] (fun i wr => ∃ k : Nat, k ≤ 7 ∧ i = .int .i64 (k : Int) ∧ Hid (Stage w1 w1.heap.size k wr)) (fun i _ => 7 - (intOf i).toNat)
  case atStart => exact ⟨0, by omega, rfl, Lib.hid ⟨_, _, _, _, _, _, HS0.out⟩⟩
  case round =>
    clear HS0
    obtain ⟨k, hk, rfl, HS⟩ := hrel
    by_cases hlt : k < 7
    · have hk1 : (k : Int) < 7 := by omega
      have hk0 : (0 : Int) ≤ (k : Int) := by omega
      have HB := Lib.hid (show Below w1.heap.size w1 wr by obtain ⟨_, _, _, _, _, _, h⟩ := HS.out; exact h.2)
      obtain ⟨x, hx⟩ : ∃ x, xs[k]? = some x := ⟨_, List.getElem?_eq_getElem (by omega)⟩
      obtain ⟨b, off, c', hv, hb, hcell⟩ := (LawFrame.RowsAt.below HOW.out HB.out).at_ hx
      injection hv with hA hA2 hA3
      clear hA2 hA3
      subst hA
      have y0 := hcell 0 _ rfl
      have y1 := hcell 1 _ rfl
      simp only [Nat.add_zero] at y0
      have HTL : Hid (textL[k]? = some (x.no, x.ws)) := Lib.hid (by rw [← HXS.out, List.getElem?_map, hx]; rfl)
      have HWW : Hid (StrsAt w1 x.ws x.v) := Lib.hid (by
        obtain ⟨B, hB⟩ := HWS.out x (List.mem_of_getElem? hx)
        exact LawFrame.RowsAt.of_own sC_len (by decide) hB)
      clear hcell hb hx
      go_wp2_with fail
      refine (stage_line w1 w1.heap.size wr k x.no x.ws HTL.out HS.out x.v HWW.out).mono ?_
      rintro e w2 ⟨rfl, hs⟩
      have HS2 := Lib.hid hs
      have z11 : w2.cell? ⟨w1.heap.size, 11, none⟩ = some (.int .i64 0) := by obtain ⟨_, _, _, _, _, _, h⟩ := hs; exact h.cell 11
      clear hs HS y0 y1
      go_wp2_with fail
      go_roundw
      case rel => exact ⟨k + 1, by omega, by go_num, HS2⟩
      case measure => simp [intOf]; omega
    · obtain rfl : k = 7 := by omega
      obtain ⟨v1, v2, vd, vp, vc, ve, hs⟩ := HS.out
      obtain ⟨m, hm⟩ : ∃ m, m = stageM v1 v2 7 := ⟨_, rfl⟩
      have HMM := Lib.hid hm
      rw [← hm] at hs
      clear hm
      obtain ⟨r, wt, bk, cy, key, ds, ps, cs, es⟩ := m
      obtain ⟨Ad, cd, e⟩ := own_form hs.1.ds
      simp only at e
      subst e
      obtain ⟨Ap, cp, e⟩ := own_form hs.1.ps
      simp only at e
      subst e
      obtain ⟨Ac, cc, e⟩ := own_form hs.1.cs
      simp only at e
      subst e
      obtain ⟨Ae, ce, e⟩ := own_form hs.1.es
      simp only at e
      subst e
      have HP := Lib.hid hs
      have z0 : wr.cell? ⟨w1.heap.size, 0, none⟩ = some (.int .i64 r) := hs.cell 0
      have z1 : wr.cell? ⟨w1.heap.size, 1, none⟩ = some (.int .i64 wt) := hs.cell 1
      have z2 : wr.cell? ⟨w1.heap.size, 2, none⟩ = some (.int .i64 bk) := hs.cell 2
      have z3 : wr.cell? ⟨w1.heap.size, 3, none⟩ = some (.int .i64 cy) := hs.cell 3
      have z4 : wr.cell? ⟨w1.heap.size, 4, none⟩ = some (.string key) := hs.cell 4
      have z5 : wr.cell? ⟨w1.heap.size, 5, none⟩ = some (.slice Ad ds.length cd) := hs.cell 5
      have z6 : wr.cell? ⟨w1.heap.size, 6, none⟩ = some (.slice Ap ps.length cp) := hs.cell 6
      have z7 : wr.cell? ⟨w1.heap.size, 7, none⟩ = some (.slice Ac cs.length cc) := hs.cell 7
      have z8 : wr.cell? ⟨w1.heap.size, 8, none⟩ = some (.slice Ae es.length ce) := hs.cell 8
      have z9 : wr.cell? ⟨w1.heap.size, 9, none⟩ = some (.bool true) := hs.cell 9
      have z10 : wr.cell? ⟨w1.heap.size, 10, none⟩ = some (.bool true) := hs.cell 10
      have HRB := Lib.hid (HB1.out.2.below hs.2 HB1.out.2.lt)
      have HG := Lib.hid (hs.1.keep (grown_setRow wr w.heap.size #[.int .i64 r, .int .i64 wt, .int .i64 bk, .int .i64 cy, .string key, .slice Ad ds.length cd, .slice Ap ps.length cp, .slice Ac cs.length cc, .slice Ae es.length ce]) (.inr (Words.own_blk_ne hs.1.ds HRB.out (by decide))) (.inr (Words.own_blk_ne hs.1.ps HRB.out (by decide))) (.inr (Words.own_blk_ne hs.1.cs HRB.out (by decide))) (.inr (Words.own_blk_ne hs.1.es HRB.out (by decide))) (fun v ⟨B', n, xs, ho⟩ => .inr (Words.own_blk_ne ho HRB.out (by decide))) (fun e => by injection e with e; have := HB1.out.2.lt; omega))
      have HBE := Lib.hid (setRow_below (cs := #[.int .i64 r, .int .i64 wt, .int .i64 bk, .int .i64 cy, .string key, .slice Ad ds.length cd, .slice Ap ps.length cp, .slice Ac cs.length cc, .slice Ae es.length ce]) (HB1.out.1.trans (hs.2.mono HB1.out.1.size)) (Nat.le_refl _))
      clear hs HS HXS HOW HWS
      go_upto_region 13 with fail
      go_wp2_with (((with_reducible show wpList _ _ _ (⟨_, .store _ _ _, _, _, _, _⟩ :: _) _ _); refine wpList_store_row rfl 27 (.tmp 2) (.tmp 67) rfl w.heap.size #[.int .i64 r, .int .i64 wt, .int .i64 bk, .int .i64 cy, .string key, .slice Ad ds.length cd, .slice Ap ps.length cp, .slice Ac cs.length cc, .slice Ae es.length ce] (by rfl) (by rfl) 27 zeroMV HRB.out (by kernel_rfl) rfl (by kernel_rfl) ?_))
      (try simp only [Exit.inBlock, Exit.then])
      refine bodyPost_ret (results_cell3 rfl _ _ w.heap.size 27 #[.int .i64 r, .int .i64 wt, .int .i64 bk, .int .i64 cy, .string key, .slice Ad ds.length cd, .slice Ap ps.length cp, .slice Ac cs.length cc, .slice Ae es.length ce] (0, 0) _ (by rfl) (setRow_heap wr w.heap.size _ _ _ _ HRB.out) Try.underlying27 rfl (by kernel_rfl)) rfl ?_
      exact ⟨v1, v2, _, _, _, _, by rw [← HMM.out]; rfl, by rw [← HMM.out]; exact HG.out.mat, HBE.out⟩
set_option maxRecDepth 100000 in
theorem text_any (w : World) : Calls Try.prog 20 #[] w fun e w' => e = .returned (.string textB) ∧ w = w' := by
  go_enter Try.func20, Try.ntmps20
  go_wp2_with fail
  go_ret
  exact ⟨rfl, rfl⟩
end Go.Proofs.Ytbpenoelmangkaa
