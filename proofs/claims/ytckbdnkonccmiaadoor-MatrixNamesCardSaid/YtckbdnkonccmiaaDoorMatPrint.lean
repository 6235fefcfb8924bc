/-
  THE WALK of matrix.Print.
-/
import Derived.Test.YtckbdnkonccmiaaDoorMatAdd
import Derived.Test.YtckbdnkonccmiaaDoorMatWhole
import Derived.Test.YtckbdnkonccmiaaDoorMatThy
namespace Go.Proofs.YtckbdnkonccmiaaDoor
open Go.RowKit
/-- these lines are gathered -/
def PrS (W0 : World) (ls : List (List ByteArray)) (w : World) : Prop := ∃ xs : List Ln, PrAt W0 W0.heap.size xs w ∧ xs.map (·.ws) = ls
theorem PrS.old {W0 w : World} {ls : List (List ByteArray)} (h : PrS W0 ls w) : Below W0.heap.size W0 w := by
  obtain ⟨xs, h, _⟩ := h
  exact h.old
theorem PrS.below {W0 w w' : World} {ls : List (List ByteArray)} (h : PrS W0 ls w) (hb : Below w.heap.size w w') : PrS W0 ls w' := by
  obtain ⟨xs, h, e⟩ := h
  exact ⟨xs, h.below hb, e⟩
theorem prs_zero (w : World) : PrS w [] (w.alloc (.cells #[.slice none 0 0] 36)) :=
  ⟨[], ⟨⟨_, Words.Blk.new w _ _, World.ownsRow_nil _ _ _ _⟩, fun x hx => (by cases hx), Nat.le_refl _, (Below.refl _ _).alloc (Nat.le_refl _) _⟩, rfl⟩
theorem add_S (W0 w : World) (ls : List (List ByteArray)) (h : PrS W0 ls w) (ws : List ByteArray) (n : Nat) (hn : n = ws.length) (A : Option Addr) (c : Nat) (hw : ∃ B', w.ownsRow B' 9 1 (.slice A n c) n (ws.flatMap sC)) (hl : ls.length ≤ 100000) :
    Calls Tryd.prog 18 #[.slice A n c, .pointer (some ⟨W0.heap.size, 0, none⟩)] w fun e w' => e = .returned (.tuple #[]) ∧ PrS W0 (ls ++ [ws]) w' ∧ Kept w w' := by
  subst hn
  obtain ⟨xs, h, e⟩ := h
  refine (add_any W0 w W0.heap.size xs h ws A c hw (by rw [← e, List.length_map] at hl; exact hl)).mono ?_
  rintro en w' ⟨rfl, h2, h3⟩
  exact ⟨rfl, ⟨_, h2, by simp [e]⟩, h3⟩
theorem lit_own (w : World) (l : List ByteArray) (hl : l.length ≤ 1000000) : (w.alloc (.cells (l.map Value.string).toArray 9)).ownsRow w.heap.size 9 1 (.slice (some ⟨w.heap.size, 0, none⟩) l.length l.length) l.length (l.flatMap sC) := by
  have e : l.flatMap sC = l.map Value.string := LawFrame.flat_one Value.string l
  rw [e]
  exact World.ownsRow_lit (base := w.heap.size) (e := 9) (size := 1) w (l.map Value.string).toArray l.length (Nat.le_refl _) (by simp only [maxLen]; omega) (by simp)
/-- words that are gathered, above W0 -/
def GatS (W0 : World) (l : List ByteArray) (n : Nat) (v : Value) (w : World) : Prop := n = l.length ∧ w.ownsRow W0.heap.size 9 1 v n (l.flatMap sC) ∧ Below W0.heap.size W0 w
theorem GatS.app {W0 wr w2 : World} {n : Nat} {l : List ByteArray} {x : ByteArray} {vo v' : Value} {ob : Obj} (h : GatS W0 l n vo wr)
    (ho : w2.ownsRow W0.heap.size 9 1 v' (n + 1) (l.flatMap sC ++ sC x)) (hg : (wr.alloc ob).grownBy w2 vo.ownBlock) : GatS W0 (l ++ [x]) (n + 1) v' w2 :=
  ⟨by simp [h.1], by simpa using ho, (h.2.2.alloc h.2.2.size ob).grown hg (by have := h.2.2.size; simp; omega) (fun k hk => (h.2.1.lt k hk).1)⟩
theorem words_few {m : Mat} (h : RightP m) {ls : List (List ByteArray)} (e : ls = linesOf m) : ∀ ws ∈ ls, ws.length ≤ 14 := by
  subst e
  intro ws hw
  have := (lines_fine h _ (List.mem_map_of_mem hw)).2.1
  simpa using this
theorem pr_ls {W0 w : World} {pb : Nat} {xs : List Ln} {v : Value} (h : PrAt W0 pb xs w) (ho : w.ownsRow W0.heap.size 50 2 v xs.length (xs.flatMap Ln.cells)) (hl : ∀ ws ∈ xs.map (·.ws), ws.length ≤ 14) : LsAt w xs v :=
  ⟨LawFrame.RowsAt.of_own Ln.cells_len (by decide) ho, fun x hx => by
    obtain ⟨B', hB⟩ := h.rows x hx
    have := hl x.ws (List.mem_map_of_mem hx)
    exact ⟨LawFrame.RowsAt.of_own sC_len (by decide) hB, by omega⟩⟩
theorem pr_bs {xs : List Ln} {ls ls' : List (List ByteArray)} (h : xs.map (·.ws) = ls) (e : ls = ls') : xs.map Ln.bs = bytesL ls' := by
  subst e h
  unfold bytesL
  rw [List.map_map]
  rfl
theorem lampAt {w : World} {lb lj : Nat} {n2 : Int} (h : Words.Blk w lb 58 #[.string ⟨#[97]⟩, .string ⟨#[109]⟩, .string ⟨#[114]⟩, .string ⟨#[102, 49, 97]⟩, .string ⟨#[102, 50, 109]⟩, .string ⟨#[102, 51, 97]⟩]) (e : n2 = (lj : Int) + 1) (hj : lj < 6) : w.cell? ⟨lb, lj, none⟩ = some (.string (lampW n2)) := by
  subst e
  have : lj = 0 ∨ lj = 1 ∨ lj = 2 ∨ lj = 3 ∨ lj = 4 ∨ lj = 5 := by omega
  rcases this with rfl | rfl | rfl | rfl | rfl | rfl <;> exact h.cell _
set_option maxHeartbeats 16000000 in
set_option maxRecDepth 100000 in
theorem printM_any (w : World) (m : Mat) (vd vp vc ve : Value) (ha : MatAt w m vd vp vc ve) (hms : MatSmall m) (ht : Tab10 w) :
    Calls Tryd.prog 10 #[m.val vd vp vc ve] w fun e w' => e = .returned (.string (textM m)) ∧ Below w.heap.size w w' := by
  have hms2 := hms
  obtain ⟨r, wt, bk, cy, key, ds, ps, cs, es⟩ := m
  obtain ⟨A0, a0, e, -, -⟩ := id ha.1
  simp only at e
  subst e
  obtain ⟨A1, a1, e, -, -⟩ := id ha.2.1
  simp only at e
  subst e
  obtain ⟨A2, a2, e, -, -⟩ := id ha.2.2.1.1
  simp only at e
  subst e
  obtain ⟨A3, a3, e, -, -⟩ := id ha.2.2.2.1
  simp only at e
  subst e
  have hright := lRight_any (w.alloc (.cells #[.int .i64 r, .int .i64 wt, .int .i64 bk, .int .i64 cy, .string key, .slice A0 ds.length a0, .slice A1 ps.length a1, .slice A2 cs.length a2, .slice A3 es.length a3] 27)) ⟨r, wt, bk, cy, key, ds, ps, cs, es⟩ _ _ _ _ (ha.below ((Below.refl _ _).alloc (Nat.le_refl _) _)) hms
  have hbw : Below w.heap.size w (w.alloc (.cells #[.int .i64 r, .int .i64 wt, .int .i64 bk, .int .i64 cy, .string key, .slice A0 ds.length a0, .slice A1 ps.length a1, .slice A2 cs.length a2, .slice A3 es.length a3] 27)) := (Below.refl _ _).alloc (Nat.le_refl _) _
  have hka : Words.Blk (w.alloc (.cells #[.int .i64 r, .int .i64 wt, .int .i64 bk, .int .i64 cy, .string key, .slice A0 ds.length a0, .slice A1 ps.length a1, .slice A2 cs.length a2, .slice A3 es.length a3] 27)) w.heap.size 27 #[.int .i64 r, .int .i64 wt, .int .i64 bk, .int .i64 cy, .string key, .slice A0 ds.length a0, .slice A1 ps.length a1, .slice A2 cs.length a2, .slice A3 es.length a3] := Words.Blk.new w _ _
  obtain ⟨i0, hi0, hz0, hz1, hz2⟩ := string_parts
  have HR := Lib.hid hright
  have HBW := Lib.hid hbw
  have HAT := Lib.hid (ha.below hbw)
  have HKA := Lib.hid hka
  have HT := Lib.hid (ht.below hbw (Nat.le_refl _))
  obtain ⟨TX, hTX⟩ : ∃ TX, TX = textM ⟨r, wt, bk, cy, key, ds, ps, cs, es⟩ := ⟨_, rfl⟩
  have HX := Lib.hid hTX
  rw [← hTX]
  unfold Mat.val
  simp only
  unfold Mat.val at HR
  simp only at HR
  have hmf : ∀ (fn : Fn) (first cap : Array Value) (w : World), (Instr.makeFunc fn first cap).run Tryd.prog w = .ok (.func fn first cap) w := fun _ _ _ _ => rfl
  clear ha hms hms2 ht hbw hka hright hTX
  go_enter Tryd.func10, Tryd.ntmps10
  go_wp2_with fail
  refine HR.out.mono ?_
  rintro e w1 ⟨b, rfl, hb, hbe⟩
  have HB1 := Lib.hid (HBW.out.trans (hbe.mono HBW.out.size))
  have HA1 := Lib.hid (HAT.out.below hbe)
  have HK1 := Lib.hid (HKA.out.below hbe HKA.out.lt)
  have HT1 := Lib.hid (HT.out.below hbe (Nat.le_refl _))
  have HBR := Lib.hid hb
  clear hb hbe HR HBW HAT HKA HT
  cases b with
  | false =>
    have HN : Hid (TX = noW) := Lib.hid (by rw [HX.out]; unfold textM; rw [if_neg (fun h => by have := HBR.out.2 h; cases this)])
    go_wp2_with fail
    go_ret
    exact ⟨by rw [HN.out]; rfl, HB1.out⟩
  | true =>
    have HP := Lib.hid (HBR.out.1 rfl)
    have HTX : Hid (TX = toB (printL (bytesL (linesOf ⟨r, wt, bk, cy, key, ds, ps, cs, es⟩)))) := Lib.hid (by rw [HX.out]; unfold textM; rw [if_pos HP.out])
    clear HBR HX
    have HS0 := Lib.hid (prs_zero w1)
    have HTi := Lib.hid HP.out.1
    go_upto_region 5 with fail
    have HK2 := Lib.hid (HK1.out.below ((Below.refl _ _).alloc (Nat.le_refl _) (.cells #[.slice none 0 0] 36)) HK1.out.lt)
    have HT2 := Lib.hid (HT1.out.below (HS0.out.old) (Nat.le_refl _))
    generalize hwa : w1.alloc (.cells #[.slice none 0 0] 36) = wa at *
    clear hwa
    have z0 : wa.cell? ⟨w.heap.size, 0, none⟩ = some (.int .i64 r) := HK2.out.cell 0
    have z1 : wa.cell? ⟨w.heap.size, 1, none⟩ = some (.int .i64 wt) := HK2.out.cell 1
    have z2 : wa.cell? ⟨w.heap.size, 2, none⟩ = some (.int .i64 bk) := HK2.out.cell 2
    have z3 : wa.cell? ⟨w.heap.size, 3, none⟩ = some (.int .i64 cy) := HK2.out.cell 3
    have HK2 := Lib.hid (HK2.out.below (below_drewn (Below.refl _ _) 1) HK2.out.lt)
    have HT2 := Lib.hid (HT2.out.below (below_drewn (Below.refl _ _) 1) (Nat.le_refl _))
    have HS0 := Lib.hid (HS0.out.below (below_drewn (Below.refl _ _) 1))
    go_region_held3 (fun w' => w'.cell? ⟨w.heap.size, 0, none⟩ = some (.int .i64 r) ∧ w'.cell? ⟨w.heap.size, 1, none⟩ = some (.int .i64 wt) ∧ w'.cell? ⟨w.heap.size, 2, none⟩ = some (.int .i64 bk) ∧ w'.cell? ⟨w.heap.size, 3, none⟩ = some (.int .i64 cy))
      (first | exact ⟨z0, z1, z2, z3⟩ | exact za _)
      (first
        | (go_at_call 19; refine (whole64_any _ _ (by have := HTi.out; unfold timesP at this; simp only at this; omega) (by have := HTi.out; unfold timesP at this; simp only at this; omega) HT2.out).mono ?_; rintro e w6 ⟨rfl, hg⟩; have hbl := below_grown hg; have HK2 := Lib.hid (HK2.out.below hbl HK2.out.lt); have HT2 := Lib.hid (HT2.out.below hbl (Nat.le_refl _)); have HS0 := Lib.hid (HS0.out.below hbl); have z0 : w6.cell? ⟨w.heap.size, 0, none⟩ = some (.int .i64 r) := HK2.out.cell 0; have z1 : w6.cell? ⟨w.heap.size, 1, none⟩ = some (.int .i64 wt) := HK2.out.cell 1; have z2 : w6.cell? ⟨w.heap.size, 2, none⟩ = some (.int .i64 bk) := HK2.out.cell 2; have z3 : w6.cell? ⟨w.heap.size, 3, none⟩ = some (.int .i64 cy) := HK2.out.cell 3; have za : ∀ ob : Obj, (w6.alloc ob).cell? ⟨w.heap.size, 0, none⟩ = some (.int .i64 r) ∧ (w6.alloc ob).cell? ⟨w.heap.size, 1, none⟩ = some (.int .i64 wt) ∧ (w6.alloc ob).cell? ⟨w.heap.size, 2, none⟩ = some (.int .i64 bk) ∧ (w6.alloc ob).cell? ⟨w.heap.size, 3, none⟩ = some (.int .i64 cy) := fun ob => ⟨(HK2.out.alloc ob).cell 0, (HK2.out.alloc ob).cell 1, (HK2.out.alloc ob).cell 2, (HK2.out.alloc ob).cell 3⟩; clear hbl hg)
        | (go_at_call 18; refine (add_S w1 _ [] (HS0.out.below ((Below.refl _ _).alloc (Nat.le_refl _) _)) [bWatch, itoB r, itoB wt, itoB bk, itoB cy] 5 rfl _ _ ⟨_, lit_own _ [bWatch, itoB r, itoB wt, itoB bk, itoB cy] (by simp)⟩ (Nat.zero_le _)).mono ?_; rintro e w7 ⟨rfl, hps, hkk⟩; have HS1 := Lib.hid hps; have HK7 := Lib.hid (hkk.blk (by decide) (by decide) (HK2.out.alloc _)); have z0 : w7.cell? ⟨w.heap.size, 0, none⟩ = some (.int .i64 r) := HK7.out.cell 0; have z1 : w7.cell? ⟨w.heap.size, 1, none⟩ = some (.int .i64 wt) := HK7.out.cell 1; have z2 : w7.cell? ⟨w.heap.size, 2, none⟩ = some (.int .i64 bk) := HK7.out.cell 2; have z3 : w7.cell? ⟨w.heap.size, 3, none⟩ = some (.int .i64 cy) := HK7.out.cell 3; clear hps hkk))
    have z4 : w7.cell? ⟨w.heap.size, 4, none⟩ = some (.string key) := HK7.out.cell 4
    have HT7 := Lib.hid (HT1.out.below HS1.out.old (Nat.le_refl _))
    clear z0 z1 z2 z3 HK2 HT2 HS0 HTi hmf
    go_wp2_with fail
    refine (add_S w1 _ _ (HS1.out.below ((Below.refl _ _).alloc (Nat.le_refl _) _)) [bKey, key] 2 rfl _ _ ⟨_, lit_own _ [bKey, key] (by simp)⟩ (by simp)).mono ?_
    rintro e w8 ⟨rfl, hps, hkk⟩
    have HS := Lib.hid hps
    have z5 : w8.cell? ⟨w.heap.size, 5, none⟩ = some (.slice A0 ds.length a0) := (HK1.out.below hps.old HK1.out.lt).cell 5
    clear hps hkk z4 HS1 HK7 HT7
    have hdl : ds.length ≤ 4 := HP.out.2.2.1.1
    go_wp2_with fail
    go_loopw [47] (fun i wr => ∃ k : Nat, k ≤ ds.length ∧ i = .int .i64 k ∧ Hid (PrS w1 (([] ++ [[bWatch, itoB r, itoB wt, itoB bk, itoB cy]] ++ [[bKey, key]]) ++ (ds.take k).map devW) wr)) (fun i _ => ds.length - (intOf i).toNat)
    case atStart => exact ⟨0, Nat.zero_le _, rfl, by rw [List.take_zero, List.map_nil, List.append_nil]; exact HS⟩
    case round =>
      clear HS z5
      obtain ⟨k, hk, rfl, HS⟩ := hrel
      by_cases hlt : k < ds.length
      · obtain ⟨x, hx⟩ : ∃ x, ds[k]? = some x := ⟨_, List.getElem?_eq_getElem hlt⟩
        obtain ⟨g, off, hA, hb, hcell⟩ := row_at (LawFrame.RowsAt.below HA1.out.1 HS.out.old) hx
        subst hA
        have y0 := hcell 0 _ rfl
        have y1 := hcell 1 _ rfl
        have y2 := hcell 2 _ rfl
        simp only [Nat.add_zero] at y0
        have HXX := Lib.hid hx
        have hk1 : (k : Int) < (ds.length : Int) := by omega
        have hk0 : (0 : Int) ≤ (k : Int) := by omega
        have HBN : Hid (_ ∧ _) := Lib.hid (HP.out.2.2.1.2 k x hx)
        obtain ⟨nm, n1, n2⟩ := x
        simp only at y0 y1 y2 HBN
        have HLB := Lib.hid (Words.Blk.new wr 47 #[.string nm, .int .i64 n1, .int .i64 n2])
        have HS := Lib.hid (HS.out.below ((Below.refl _ _).alloc (Nat.le_refl _) (.cells #[.string nm, .int .i64 n1, .int .i64 n2] 47)))
        have HTT := Lib.hid (HT1.out.below HS.out.old (Nat.le_refl _))
        have HLN : Hid ((([] ++ [[bWatch, itoB r, itoB wt, itoB bk, itoB cy]] ++ [[bKey, key]]) ++ (ds.take k).map devW).length ≤ 100000) := Lib.hid (by simp; omega)
        clear hcell hb hx
        go_upto_region 10 with fail
        clear y0 y1 y2
        generalize wr.alloc (.cells #[.string nm, .int .i64 n1, .int .i64 n2] 47) = wa at *
        obtain ⟨gg, hgg⟩ : ∃ gg, gg = wr.heap.size := ⟨_, rfl⟩
        rw [← hgg] at HLB ⊢
        clear hgg
        have q0 : wa.cell? ⟨gg, 0, none⟩ = some (.string nm) := HLB.out.cell 0
        have q1 : wa.cell? ⟨gg, 1, none⟩ = some (.int .i64 n1) := HLB.out.cell 1
        have q2 : wa.cell? ⟨gg, 2, none⟩ = some (.int .i64 n2) := HLB.out.cell 2
        have HLB := Lib.hid (HLB.out.below (below_drewn (Below.refl _ _) 1) HLB.out.lt)
        have HTT := Lib.hid (HTT.out.below (below_drewn (Below.refl _ _) 1) (Nat.le_refl _))
        have HS := Lib.hid (HS.out.below (below_drewn (Below.refl _ _) 1))
        go_region_held3 (fun w' => w'.cell? ⟨gg, 0, none⟩ = some (.string nm) ∧ w'.cell? ⟨gg, 1, none⟩ = some (.int .i64 n1) ∧ w'.cell? ⟨gg, 2, none⟩ = some (.int .i64 n2))
          (first | exact ⟨q0, q1, q2⟩ | exact za _)
          (first
            | (go_at_call 20; refine (whole_any _ _ (by have := HBN.out; omega) (by have := HBN.out; omega) HTT.out).mono ?_; rintro e w6 ⟨rfl, hg⟩; have hbl := below_grown hg; have HLB := Lib.hid (HLB.out.below hbl HLB.out.lt); have HTT := Lib.hid (HTT.out.below hbl (Nat.le_refl _)); have HS := Lib.hid (HS.out.below hbl); have q0 : w6.cell? ⟨gg, 0, none⟩ = some (.string nm) := HLB.out.cell 0; have q1 : w6.cell? ⟨gg, 1, none⟩ = some (.int .i64 n1) := HLB.out.cell 1; have q2 : w6.cell? ⟨gg, 2, none⟩ = some (.int .i64 n2) := HLB.out.cell 2; have za : ∀ ob : Obj, (w6.alloc ob).cell? ⟨gg, 0, none⟩ = some (.string nm) ∧ (w6.alloc ob).cell? ⟨gg, 1, none⟩ = some (.int .i64 n1) ∧ (w6.alloc ob).cell? ⟨gg, 2, none⟩ = some (.int .i64 n2) := fun ob => ⟨(HLB.out.alloc ob).cell 0, (HLB.out.alloc ob).cell 1, (HLB.out.alloc ob).cell 2⟩; clear hbl hg)
            | (go_at_call 19; refine (whole64_any _ _ (by have := HBN.out; omega) (by have := HBN.out; omega) HTT.out).mono ?_; rintro e w6 ⟨rfl, hg⟩; have hbl := below_grown hg; have HLB := Lib.hid (HLB.out.below hbl HLB.out.lt); have HTT := Lib.hid (HTT.out.below hbl (Nat.le_refl _)); have HS := Lib.hid (HS.out.below hbl); have q0 : w6.cell? ⟨gg, 0, none⟩ = some (.string nm) := HLB.out.cell 0; have q1 : w6.cell? ⟨gg, 1, none⟩ = some (.int .i64 n1) := HLB.out.cell 1; have q2 : w6.cell? ⟨gg, 2, none⟩ = some (.int .i64 n2) := HLB.out.cell 2; have za : ∀ ob : Obj, (w6.alloc ob).cell? ⟨gg, 0, none⟩ = some (.string nm) ∧ (w6.alloc ob).cell? ⟨gg, 1, none⟩ = some (.int .i64 n1) ∧ (w6.alloc ob).cell? ⟨gg, 2, none⟩ = some (.int .i64 n2) := fun ob => ⟨(HLB.out.alloc ob).cell 0, (HLB.out.alloc ob).cell 1, (HLB.out.alloc ob).cell 2⟩; clear hbl hg)
            | (go_at_call 18; refine (add_S w1 _ _ (HS.out.below ((Below.refl _ _).alloc (Nat.le_refl _) _)) [bDevice, nm, itoB n1, itoB n2] 4 rfl _ _ ⟨_, lit_own _ [bDevice, nm, itoB n1, itoB n2] (by simp)⟩ HLN.out).mono ?_; rintro e w7 ⟨rfl, hps, hkk⟩; have HS := Lib.hid hps; have HLB := Lib.hid (hkk.blk (by decide) (by decide) (HLB.out.alloc _)); have q0 : w7.cell? ⟨gg, 0, none⟩ = some (.string nm) := HLB.out.cell 0; have q1 : w7.cell? ⟨gg, 1, none⟩ = some (.int .i64 n1) := HLB.out.cell 1; have q2 : w7.cell? ⟨gg, 2, none⟩ = some (.int .i64 n2) := HLB.out.cell 2; clear hps hkk))
        clear q0 q1 q2 HLB HTT
        go_wp2_with fail
        go_roundw
        case rel => exact ⟨k + 1, by omega, by go_num, Lib.hid (by have h := HS.out; rw [List.take_add_one, HXX.out]; simpa [devW] using h)⟩
        case measure => simp [intOf]; omega
      · obtain rfl : k = ds.length := by omega
        rw [List.take_length] at HS
        clear hlt hk
        have z6 : wr.cell? ⟨w.heap.size, 6, none⟩ = some (.slice A1 ps.length a1) := (HK1.out.below HS.out.old HK1.out.lt).cell 6
        have hpl : ps.length ≤ 16 := HP.out.2.2.2.1.1
        go_wp2_with fail
        clear z6
        go_loopw [66] (fun i wr => ∃ k : Nat, k ≤ ps.length ∧ i = .int .i64 k ∧ Hid (PrS w1 ((([] ++ [[bWatch, itoB r, itoB wt, itoB bk, itoB cy]] ++ [[bKey, key]]) ++ ds.map devW) ++ (ps.take k).map (ptW (ds.map (fun d : Dev => d.name)))) wr)) (fun i _ => ps.length - (intOf i).toNat)
        case atStart => exact ⟨0, Nat.zero_le _, rfl, by rw [List.take_zero, List.map_nil, List.append_nil]; exact HS⟩
        case round =>
          clear HS
          obtain ⟨k, hk, rfl, HS⟩ := hrel
          by_cases hlt : k < ps.length
          · obtain ⟨x, hx⟩ : ∃ x, ps[k]? = some x := ⟨_, List.getElem?_eq_getElem hlt⟩
            obtain ⟨g, off, hA, hb, hcell⟩ := row_at (LawFrame.RowsAt.below HA1.out.2.1 HS.out.old) hx
            subst hA
            have y0 := hcell 0 _ rfl
            have y1 := hcell 1 _ rfl
            have y2 := hcell 2 _ rfl
            have y3 := hcell 3 _ rfl
            have y4 := hcell 4 _ rfl
            have y5 := hcell 5 _ rfl
            simp only [Nat.add_zero] at y0
            have HXX := Lib.hid hx
            have hk1 : (k : Int) < (ps.length : Int) := by omega
            have hk0 : (0 : Int) ≤ (k : Int) := by omega
            have HBN : Hid (_ ∧ _) := Lib.hid (HP.out.2.2.2.1.2 k x hx)
            obtain ⟨nm, n1, n2, n3, n4, n5⟩ := x
            simp only at y0 y1 y2 y3 y4 y5 HBN
            obtain ⟨jd, rfl⟩ : ∃ j : Nat, n1 = (j : Int) := ⟨n1.toNat, by have := HBN.out.1.1; omega⟩
            have hj1 : (jd : Int) < (ds.length : Int) := HBN.out.1.2
            have hj0 : (0 : Int) ≤ (jd : Int) := by omega
            obtain ⟨xd, hxd⟩ : ∃ x, ds[jd]? = some x := ⟨_, List.getElem?_eq_getElem (by omega)⟩
            have HDN : Hid (∃ gd od, A0 = some ⟨gd, od, none⟩ ∧ ∀ w', Below w1.heap.size w1 w' → w'.cell? ⟨gd, od + jd * 3, none⟩ = some (.string xd.name)) := Lib.hid (by
              obtain ⟨gd, od, hA, hb2, hc2⟩ := row_at HA1.out.1 hxd
              refine ⟨gd, od, hA, fun w' hw' => ?_⟩
              obtain ⟨gd2, od2, hA2, -, hc3⟩ := row_at (LawFrame.RowsAt.below HA1.out.1 hw') hxd
              rw [hA] at hA2
              injection hA2 with hA2
              injection hA2 with e1 e2 _
              subst e1 e2
              exact hc3 0 _ rfl)
            obtain ⟨gd, od, hA0, hdn⟩ := HDN.out
            have HDF := Lib.hid hdn
            have HXD := Lib.hid hxd
            have HNM : Hid (nameAt (ds.map (fun d : Dev => d.name)) (jd : Int) = xd.name) := Lib.hid (nameAt_eq (by rw [List.getElem?_map, hxd]; rfl))
            subst hA0
            have HLB := Lib.hid (Words.Blk.new wr 45 #[.string nm, .int .i64 (jd : Int), .int .i64 n2, .int .i64 n3, .int .i64 n4, .int .i64 n5])
            have HS := Lib.hid (HS.out.below ((Below.refl _ _).alloc (Nat.le_refl _) (.cells #[.string nm, .int .i64 (jd : Int), .int .i64 n2, .int .i64 n3, .int .i64 n4, .int .i64 n5] 45)))
            have HTT := Lib.hid (HT1.out.below HS.out.old (Nat.le_refl _))
            have HLN : Hid (((([] ++ [[bWatch, itoB r, itoB wt, itoB bk, itoB cy]] ++ [[bKey, key]]) ++ ds.map devW) ++ (ps.take k).map (ptW (ds.map (fun d : Dev => d.name)))).length ≤ 100000) := Lib.hid (by simp; omega)
            clear hdn hxd hcell hb hx
            go_upto_region 15 with fail
            clear y0 y1 y2 y3 y4 y5
            generalize wr.alloc (.cells #[.string nm, .int .i64 (jd : Int), .int .i64 n2, .int .i64 n3, .int .i64 n4, .int .i64 n5] 45) = wa at *
            obtain ⟨gg, hgg⟩ : ∃ gg, gg = wr.heap.size := ⟨_, rfl⟩
            rw [← hgg] at HLB ⊢
            clear hgg
            have q0 : wa.cell? ⟨gg, 0, none⟩ = some (.string nm) := HLB.out.cell 0
            have q1 : wa.cell? ⟨gg, 1, none⟩ = some (.int .i64 (jd : Int)) := HLB.out.cell 1
            have q2 : wa.cell? ⟨gg, 2, none⟩ = some (.int .i64 n2) := HLB.out.cell 2
            have q3 : wa.cell? ⟨gg, 3, none⟩ = some (.int .i64 n3) := HLB.out.cell 3
            have q4 : wa.cell? ⟨gg, 4, none⟩ = some (.int .i64 n4) := HLB.out.cell 4
            have q5 : wa.cell? ⟨gg, 5, none⟩ = some (.int .i64 n5) := HLB.out.cell 5
            have q6 : wa.cell? ⟨w.heap.size, 5, none⟩ = some (.slice (some ⟨gd, od, none⟩) ds.length a0) := (HK1.out.below HS.out.old HK1.out.lt).cell 5
            have q7 : wa.cell? ⟨gd, od + jd * 3, none⟩ = some (.string xd.name) := HDF.out _ HS.out.old
            have HLB := Lib.hid (HLB.out.below (below_drewn (Below.refl _ _) 1) HLB.out.lt)
            have HTT := Lib.hid (HTT.out.below (below_drewn (Below.refl _ _) 1) (Nat.le_refl _))
            have HS := Lib.hid (HS.out.below (below_drewn (Below.refl _ _) 1))
            go_region_held3 (fun w' => w'.cell? ⟨gg, 0, none⟩ = some (.string nm) ∧ w'.cell? ⟨gg, 1, none⟩ = some (.int .i64 (jd : Int)) ∧ w'.cell? ⟨gg, 2, none⟩ = some (.int .i64 n2) ∧ w'.cell? ⟨gg, 3, none⟩ = some (.int .i64 n3) ∧ w'.cell? ⟨gg, 4, none⟩ = some (.int .i64 n4) ∧ w'.cell? ⟨gg, 5, none⟩ = some (.int .i64 n5) ∧ w'.cell? ⟨w.heap.size, 5, none⟩ = some (.slice (some ⟨gd, od, none⟩) ds.length a0) ∧ w'.cell? ⟨gd, od + jd * 3, none⟩ = some (.string xd.name))
              (first | exact ⟨q0, q1, q2, q3, q4, q5, q6, q7⟩ | exact za _)
              (first
                | (go_at_call 20; refine (whole_any _ _ (by have := HBN.out; omega) (by have := HBN.out; omega) HTT.out).mono ?_; rintro e w6 ⟨rfl, hg⟩; have hbl := below_grown hg; have HLB := Lib.hid (HLB.out.below hbl HLB.out.lt); have HTT := Lib.hid (HTT.out.below hbl (Nat.le_refl _)); have HS := Lib.hid (HS.out.below hbl); have q0 : w6.cell? ⟨gg, 0, none⟩ = some (.string nm) := HLB.out.cell 0; have q1 : w6.cell? ⟨gg, 1, none⟩ = some (.int .i64 (jd : Int)) := HLB.out.cell 1; have q2 : w6.cell? ⟨gg, 2, none⟩ = some (.int .i64 n2) := HLB.out.cell 2; have q3 : w6.cell? ⟨gg, 3, none⟩ = some (.int .i64 n3) := HLB.out.cell 3; have q4 : w6.cell? ⟨gg, 4, none⟩ = some (.int .i64 n4) := HLB.out.cell 4; have q5 : w6.cell? ⟨gg, 5, none⟩ = some (.int .i64 n5) := HLB.out.cell 5; have q6 : w6.cell? ⟨w.heap.size, 5, none⟩ = some (.slice (some ⟨gd, od, none⟩) ds.length a0) := (HK1.out.below HS.out.old HK1.out.lt).cell 5; have q7 : w6.cell? ⟨gd, od + jd * 3, none⟩ = some (.string xd.name) := HDF.out _ HS.out.old; have za : ∀ ob : Obj, (w6.alloc ob).cell? ⟨gg, 0, none⟩ = some (.string nm) ∧ (w6.alloc ob).cell? ⟨gg, 1, none⟩ = some (.int .i64 (jd : Int)) ∧ (w6.alloc ob).cell? ⟨gg, 2, none⟩ = some (.int .i64 n2) ∧ (w6.alloc ob).cell? ⟨gg, 3, none⟩ = some (.int .i64 n3) ∧ (w6.alloc ob).cell? ⟨gg, 4, none⟩ = some (.int .i64 n4) ∧ (w6.alloc ob).cell? ⟨gg, 5, none⟩ = some (.int .i64 n5) ∧ (w6.alloc ob).cell? ⟨w.heap.size, 5, none⟩ = some (.slice (some ⟨gd, od, none⟩) ds.length a0) ∧ (w6.alloc ob).cell? ⟨gd, od + jd * 3, none⟩ = some (.string xd.name) := fun ob => ⟨(HLB.out.alloc ob).cell 0, (HLB.out.alloc ob).cell 1, (HLB.out.alloc ob).cell 2, (HLB.out.alloc ob).cell 3, (HLB.out.alloc ob).cell 4, (HLB.out.alloc ob).cell 5, (HK1.out.below (HS.out.old.alloc HS.out.old.size ob) HK1.out.lt).cell 5, HDF.out _ (HS.out.old.alloc HS.out.old.size ob)⟩; clear hbl hg)
                | (go_at_call 19; refine (whole64_any _ _ (by have := HBN.out; omega) (by have := HBN.out; omega) HTT.out).mono ?_; rintro e w6 ⟨rfl, hg⟩; have hbl := below_grown hg; have HLB := Lib.hid (HLB.out.below hbl HLB.out.lt); have HTT := Lib.hid (HTT.out.below hbl (Nat.le_refl _)); have HS := Lib.hid (HS.out.below hbl); have q0 : w6.cell? ⟨gg, 0, none⟩ = some (.string nm) := HLB.out.cell 0; have q1 : w6.cell? ⟨gg, 1, none⟩ = some (.int .i64 (jd : Int)) := HLB.out.cell 1; have q2 : w6.cell? ⟨gg, 2, none⟩ = some (.int .i64 n2) := HLB.out.cell 2; have q3 : w6.cell? ⟨gg, 3, none⟩ = some (.int .i64 n3) := HLB.out.cell 3; have q4 : w6.cell? ⟨gg, 4, none⟩ = some (.int .i64 n4) := HLB.out.cell 4; have q5 : w6.cell? ⟨gg, 5, none⟩ = some (.int .i64 n5) := HLB.out.cell 5; have q6 : w6.cell? ⟨w.heap.size, 5, none⟩ = some (.slice (some ⟨gd, od, none⟩) ds.length a0) := (HK1.out.below HS.out.old HK1.out.lt).cell 5; have q7 : w6.cell? ⟨gd, od + jd * 3, none⟩ = some (.string xd.name) := HDF.out _ HS.out.old; have za : ∀ ob : Obj, (w6.alloc ob).cell? ⟨gg, 0, none⟩ = some (.string nm) ∧ (w6.alloc ob).cell? ⟨gg, 1, none⟩ = some (.int .i64 (jd : Int)) ∧ (w6.alloc ob).cell? ⟨gg, 2, none⟩ = some (.int .i64 n2) ∧ (w6.alloc ob).cell? ⟨gg, 3, none⟩ = some (.int .i64 n3) ∧ (w6.alloc ob).cell? ⟨gg, 4, none⟩ = some (.int .i64 n4) ∧ (w6.alloc ob).cell? ⟨gg, 5, none⟩ = some (.int .i64 n5) ∧ (w6.alloc ob).cell? ⟨w.heap.size, 5, none⟩ = some (.slice (some ⟨gd, od, none⟩) ds.length a0) ∧ (w6.alloc ob).cell? ⟨gd, od + jd * 3, none⟩ = some (.string xd.name) := fun ob => ⟨(HLB.out.alloc ob).cell 0, (HLB.out.alloc ob).cell 1, (HLB.out.alloc ob).cell 2, (HLB.out.alloc ob).cell 3, (HLB.out.alloc ob).cell 4, (HLB.out.alloc ob).cell 5, (HK1.out.below (HS.out.old.alloc HS.out.old.size ob) HK1.out.lt).cell 5, HDF.out _ (HS.out.old.alloc HS.out.old.size ob)⟩; clear hbl hg)
                | (go_at_call 18; refine (add_S w1 _ _ (HS.out.below ((Below.refl _ _).alloc (Nat.le_refl _) _)) [bPoint, nm, xd.name, itoB n2, itoB n3, itoB n4, itoB n5] 7 rfl _ _ ⟨_, lit_own _ [bPoint, nm, xd.name, itoB n2, itoB n3, itoB n4, itoB n5] (by simp)⟩ HLN.out).mono ?_; rintro e w7 ⟨rfl, hps, hkk⟩; have HS := Lib.hid hps; have HLB := Lib.hid (hkk.blk (by decide) (by decide) (HLB.out.alloc _)); have q0 : w7.cell? ⟨gg, 0, none⟩ = some (.string nm) := HLB.out.cell 0; have q1 : w7.cell? ⟨gg, 1, none⟩ = some (.int .i64 (jd : Int)) := HLB.out.cell 1; have q2 : w7.cell? ⟨gg, 2, none⟩ = some (.int .i64 n2) := HLB.out.cell 2; have q3 : w7.cell? ⟨gg, 3, none⟩ = some (.int .i64 n3) := HLB.out.cell 3; have q4 : w7.cell? ⟨gg, 4, none⟩ = some (.int .i64 n4) := HLB.out.cell 4; have q5 : w7.cell? ⟨gg, 5, none⟩ = some (.int .i64 n5) := HLB.out.cell 5; have q6 : w7.cell? ⟨w.heap.size, 5, none⟩ = some (.slice (some ⟨gd, od, none⟩) ds.length a0) := (HK1.out.below HS.out.old HK1.out.lt).cell 5; have q7 : w7.cell? ⟨gd, od + jd * 3, none⟩ = some (.string xd.name) := HDF.out _ HS.out.old; clear hps hkk))
            clear q0 q1 q2 q3 q4 q5 q6 q7 HLB HTT
            go_wp2_with fail
            go_roundw
            case rel => exact ⟨k + 1, by omega, by go_num, Lib.hid (by have h := HS.out; rw [List.take_add_one, HXX.out]; simpa [ptW, HNM.out] using h)⟩
            case measure => simp [intOf]; omega
          · obtain rfl : k = ps.length := by omega
            rw [List.take_length] at HS
            clear hlt hk
            have HL1 : Hid (Below w1.heap.size w1 (wr.alloc (.cells lampsV 58))) := Lib.hid (HS.out.old.alloc HS.out.old.size _)
            have HLM := Lib.hid (Words.Blk.new (wr.alloc (.cells lampsV 58)) 58 lampsV)
            have HS4 := Lib.hid ((HS.out.below ((Below.refl _ _).alloc (Nat.le_refl _) (.cells lampsV 58))).below ((Below.refl _ _).alloc (Nat.le_refl _) (.cells lampsV 58)))
            have z7 : ((wr.alloc (.cells lampsV 58)).alloc (.cells lampsV 58)).cell? ⟨w.heap.size, 7, none⟩ = some (.slice A2 cs.length a2) := (HK1.out.below HS4.out.old HK1.out.lt).cell 7
            have hlamps := lamps_any wr
            unfold lampsV at HL1 HLM HS4 z7 hlamps
            have HLA := Lib.hid hlamps
            have elb : (wr.alloc (.cells lampsV 58)).heap.size = wr.heap.size + 1 := by simp
            unfold lampsV at elb
            rw [elb] at HLM
            clear hlamps HS elb
            go_wp2_with fail
            refine HLA.out.mono ?_
            rintro e wl ⟨rfl, rfl⟩
            go_wp2_with fail
            clear z7 HL1 HLA
            obtain ⟨lb, hlb⟩ : ∃ lb, lb = wr.heap.size + 1 := ⟨_, rfl⟩
            rw [← hlb] at HLM ⊢
            have hcl : cs.length ≤ 8 := HP.out.2.2.2.2.1.1
            go_loopw [99] (fun i wr => ∃ k : Nat, k ≤ cs.length ∧ i = .int .i64 k ∧ Hid (PrS w1 (((([] ++ [[bWatch, itoB r, itoB wt, itoB bk, itoB cy]] ++ [[bKey, key]]) ++ ds.map devW) ++ ps.map (ptW (ds.map (fun d : Dev => d.name)))) ++ (cs.take k).map (csW (ps.map (fun d : Pt => d.name)))) wr) ∧ Hid (Words.Blk wr lb 58 #[.string ⟨#[97]⟩, .string ⟨#[109]⟩, .string ⟨#[114]⟩, .string ⟨#[102, 49, 97]⟩, .string ⟨#[102, 50, 109]⟩, .string ⟨#[102, 51, 97]⟩])) (fun i _ => cs.length - (intOf i).toNat)
            case atStart => exact ⟨0, Nat.zero_le _, rfl, by rw [List.take_zero, List.map_nil, List.append_nil]; exact HS4, HLM⟩
            case round =>
              clear HS4 HLM hlb
              obtain ⟨k, hk, rfl, HS, HLM⟩ := hrel
              by_cases hlt : k < cs.length
              · obtain ⟨x, hx⟩ : ∃ x, cs[k]? = some x := ⟨_, List.getElem?_eq_getElem hlt⟩
                obtain ⟨g, off, hA, hb, hcell⟩ := row_at (LawFrame.RowsAt.below HA1.out.2.2.1.1 HS.out.old) hx
                subst hA
                have y0 := hcell 0 _ rfl
                have y1 := hcell 1 _ rfl
                have y2 := hcell 2 _ rfl
                have y3 := hcell 3 _ rfl
                have y4 := hcell 4 _ rfl
                simp only [Nat.add_zero] at y0
                have HXX := Lib.hid hx
                have hk1 : (k : Int) < (cs.length : Int) := by omega
                have hk0 : (0 : Int) ≤ (k : Int) := by omega
                have hnx := HA1.out.2.2.1.2 x (List.mem_of_getElem? hx)
                have hbn := HP.out.2.2.2.2.1.2 k x hx
                have hpr := someP_range hbn.1
                obtain ⟨nm, n1, n2, n3, v, cpts⟩ := x
                obtain ⟨cA, cc, e, -, -⟩ := id hnx
                simp only at e
                subst e
                unfold csP someP at hbn
                simp only at y0 y1 y2 y3 y4 hbn hnx hpr
                have HBN : Hid ((1 ≤ n1 ∧ n1 ≤ 4) ∧ (1 ≤ n2 ∧ n2 ≤ 6) ∧ (0 ≤ n3 ∧ n3 ≤ 100000) ∧ cpts.length ≤ 4) := Lib.hid (by omega)
                have HPR := Lib.hid hpr
                have HNX := Lib.hid hnx
                obtain ⟨lj, hlj⟩ : ∃ j : Nat, n2 = (j : Int) + 1 := ⟨(n2 - 1).toNat, by have := HBN.out.2.1; omega⟩
                have HLJ := Lib.hid (show lj < 6 by have := HBN.out.2.1; omega)
                have hw1 : IntKind.i64.wrap (n2 - 1) = (lj : Int) := by rw [IntWalk.i64_in _ (by have := HLJ.out; omega)]; omega
                have hl6 : (lj : Int) < 6 := by have := HLJ.out; omega
                have hl0 : (0 : Int) ≤ (lj : Int) := by omega
                have HLB := Lib.hid (Words.Blk.new wr 43 #[.string nm, .int .i64 n1, .int .i64 n2, .int .i64 n3, .slice cA cpts.length cc])
                have HS := Lib.hid (HS.out.below ((Below.refl _ _).alloc (Nat.le_refl _) (.cells #[.string nm, .int .i64 n1, .int .i64 n2, .int .i64 n3, .slice cA cpts.length cc] 43)))
                have HLM := Lib.hid (HLM.out.below ((Below.refl _ _).alloc (Nat.le_refl _) (.cells #[.string nm, .int .i64 n1, .int .i64 n2, .int .i64 n3, .slice cA cpts.length cc] 43)) HLM.out.lt)
                have HTT := Lib.hid (HT1.out.below HS.out.old (Nat.le_refl _))
                have HLN : Hid ((((([] ++ [[bWatch, itoB r, itoB wt, itoB bk, itoB cy]] ++ [[bKey, key]]) ++ ds.map devW) ++ ps.map (ptW (ds.map (fun d : Dev => d.name)))) ++ (cs.take k).map (csW (ps.map (fun d : Pt => d.name)))).length ≤ 100000) := Lib.hid (by simp; omega)
                have HJE := Lib.hid hlj
                clear hcell hb hx hnx hlj hbn hpr
                go_upto_region 21 with fail
                clear y0 y1 y2 y3 y4
                generalize wr.alloc (.cells #[.string nm, .int .i64 n1, .int .i64 n2, .int .i64 n3, .slice cA cpts.length cc] 43) = wa at *
                obtain ⟨gg, hgg⟩ : ∃ gg, gg = wr.heap.size := ⟨_, rfl⟩
                rw [← hgg] at HLB ⊢
                clear hgg
                have q0 : wa.cell? ⟨gg, 0, none⟩ = some (.string nm) := HLB.out.cell 0
                have q1 : wa.cell? ⟨gg, 1, none⟩ = some (.int .i64 n1) := HLB.out.cell 1
                have q2 : wa.cell? ⟨gg, 2, none⟩ = some (.int .i64 n2) := HLB.out.cell 2
                have q3 : wa.cell? ⟨gg, 3, none⟩ = some (.int .i64 n3) := HLB.out.cell 3
                have q4 : wa.cell? ⟨lb, lj, none⟩ = some (.string (lampW n2)) := lampAt HLM.out HJE.out HLJ.out
                have HLB := Lib.hid (HLB.out.below (below_drewn (Below.refl _ _) 1) HLB.out.lt)
                have HLM := Lib.hid (HLM.out.below (below_drewn (Below.refl _ _) 1) HLM.out.lt)
                have HTT := Lib.hid (HTT.out.below (below_drewn (Below.refl _ _) 1) (Nat.le_refl _))
                have HS := Lib.hid (HS.out.below (below_drewn (Below.refl _ _) 1))
                go_region_held3 (fun w' => w'.cell? ⟨gg, 0, none⟩ = some (.string nm) ∧ w'.cell? ⟨gg, 1, none⟩ = some (.int .i64 n1) ∧ w'.cell? ⟨gg, 2, none⟩ = some (.int .i64 n2) ∧ w'.cell? ⟨gg, 3, none⟩ = some (.int .i64 n3) ∧ w'.cell? ⟨lb, lj, none⟩ = some (.string (lampW n2)))
                  (first | exact ⟨q0, q1, q2, q3, q4⟩ | exact za _)
                  (first
                    | (go_at_call 20; refine (whole_any _ _ (by have := HBN.out; omega) (by have := HBN.out; omega) HTT.out).mono ?_; rintro e w6 ⟨rfl, hg⟩; have hbl := below_grown hg; have HLB := Lib.hid (HLB.out.below hbl HLB.out.lt); have HLM := Lib.hid (HLM.out.below hbl HLM.out.lt); have HTT := Lib.hid (HTT.out.below hbl (Nat.le_refl _)); have HS := Lib.hid (HS.out.below hbl); have q0 : w6.cell? ⟨gg, 0, none⟩ = some (.string nm) := HLB.out.cell 0; have q1 : w6.cell? ⟨gg, 1, none⟩ = some (.int .i64 n1) := HLB.out.cell 1; have q2 : w6.cell? ⟨gg, 2, none⟩ = some (.int .i64 n2) := HLB.out.cell 2; have q3 : w6.cell? ⟨gg, 3, none⟩ = some (.int .i64 n3) := HLB.out.cell 3; have q4 : w6.cell? ⟨lb, lj, none⟩ = some (.string (lampW n2)) := lampAt HLM.out HJE.out HLJ.out; have za : ∀ ob : Obj, (w6.alloc ob).cell? ⟨gg, 0, none⟩ = some (.string nm) ∧ (w6.alloc ob).cell? ⟨gg, 1, none⟩ = some (.int .i64 n1) ∧ (w6.alloc ob).cell? ⟨gg, 2, none⟩ = some (.int .i64 n2) ∧ (w6.alloc ob).cell? ⟨gg, 3, none⟩ = some (.int .i64 n3) ∧ (w6.alloc ob).cell? ⟨lb, lj, none⟩ = some (.string (lampW n2)) := fun ob => ⟨(HLB.out.alloc ob).cell 0, (HLB.out.alloc ob).cell 1, (HLB.out.alloc ob).cell 2, (HLB.out.alloc ob).cell 3, lampAt (HLM.out.alloc ob) HJE.out HLJ.out⟩; clear hbl hg)
                    | (go_at_call 19; refine (whole64_any _ _ (by have := HBN.out; omega) (by have := HBN.out; omega) HTT.out).mono ?_; rintro e w6 ⟨rfl, hg⟩; have hbl := below_grown hg; have HLB := Lib.hid (HLB.out.below hbl HLB.out.lt); have HLM := Lib.hid (HLM.out.below hbl HLM.out.lt); have HTT := Lib.hid (HTT.out.below hbl (Nat.le_refl _)); have HS := Lib.hid (HS.out.below hbl); have q0 : w6.cell? ⟨gg, 0, none⟩ = some (.string nm) := HLB.out.cell 0; have q1 : w6.cell? ⟨gg, 1, none⟩ = some (.int .i64 n1) := HLB.out.cell 1; have q2 : w6.cell? ⟨gg, 2, none⟩ = some (.int .i64 n2) := HLB.out.cell 2; have q3 : w6.cell? ⟨gg, 3, none⟩ = some (.int .i64 n3) := HLB.out.cell 3; have q4 : w6.cell? ⟨lb, lj, none⟩ = some (.string (lampW n2)) := lampAt HLM.out HJE.out HLJ.out; have za : ∀ ob : Obj, (w6.alloc ob).cell? ⟨gg, 0, none⟩ = some (.string nm) ∧ (w6.alloc ob).cell? ⟨gg, 1, none⟩ = some (.int .i64 n1) ∧ (w6.alloc ob).cell? ⟨gg, 2, none⟩ = some (.int .i64 n2) ∧ (w6.alloc ob).cell? ⟨gg, 3, none⟩ = some (.int .i64 n3) ∧ (w6.alloc ob).cell? ⟨lb, lj, none⟩ = some (.string (lampW n2)) := fun ob => ⟨(HLB.out.alloc ob).cell 0, (HLB.out.alloc ob).cell 1, (HLB.out.alloc ob).cell 2, (HLB.out.alloc ob).cell 3, lampAt (HLM.out.alloc ob) HJE.out HLJ.out⟩; clear hbl hg))
                clear q0 q1 q2 q3 q4 hw1 hl6 hl0
                have HG0 : Hid (GatS w6 ([bCause, nm, itoB n1, lampW n2, itoB n3] ++ (cpts.take 0).map (nameAt (ps.map (fun d : Pt => d.name)))) 5 (.slice (some ⟨w6.heap.size, 0, none⟩) 5 5) (w6.alloc (.cells #[.string ⟨#[99, 97, 117, 115, 101]⟩, .string nm, .string (itoB n1), .string (lampW n2), .string (itoB n3)] 9))) := Lib.hid ⟨rfl, lit_own w6 [bCause, nm, itoB n1, lampW n2, itoB n3] (by simp), (Below.refl _ _).alloc (Nat.le_refl _) _⟩
                have q4 : (w6.alloc (.cells #[.string ⟨#[99, 97, 117, 115, 101]⟩, .string nm, .string (itoB n1), .string (lampW n2), .string (itoB n3)] 9)).cell? ⟨gg, 4, none⟩ = some (.slice cA cpts.length cc) := (HLB.out.alloc _).cell 4
                clear HTT HLJ HJE
                go_wp2_with fail
                clear q4 za
                go_loopw [12, 120] (fun s i wr => ∃ j n : Nat, j ≤ cpts.length ∧ i = .int .i64 j ∧ Hid (GatS w6 ([bCause, nm, itoB n1, lampW n2, itoB n3] ++ (cpts.take j).map (nameAt (ps.map (fun d : Pt => d.name)))) n s wr)) (fun _ i _ => cpts.length - (intOf i).toNat)
                case atStart => exact ⟨0, 5, Nat.zero_le _, rfl, HG0⟩
                case round =>
                  clear HG0
                  obtain ⟨j, n, hj, rfl, HG⟩ := hrel
                  have hn : n ≤ 5 + j := by have := HG.out.1; simp at this; omega
                  by_cases hjl : j < cpts.length
                  · obtain ⟨p, hp⟩ : ∃ p, cpts[j]? = some p := ⟨_, List.getElem?_eq_getElem hjl⟩
                    have HOW := Lib.hid (HS.out.below HG.out.2.2)
                    obtain ⟨cg, co, hcA, hcell⟩ := one_at (NumsAt.below HNX.out HOW.out.old) hp
                    subst hcA
                    have y0 := hcell _ rfl
                    have hpm := HPR.out p (List.mem_of_getElem? hp)
                    obtain ⟨jp, rfl⟩ : ∃ jp : Nat, p = (jp : Int) := ⟨p.toNat, by omega⟩
                    have hp1 : (jp : Int) < (ps.length : Int) := hpm.2
                    have hp0 : (0 : Int) ≤ (jp : Int) := by omega
                    have hj1 : (j : Int) < (cpts.length : Int) := by omega
                    have hj0 : (0 : Int) ≤ (j : Int) := by omega
                    obtain ⟨xp, hxp⟩ : ∃ x, ps[jp]? = some x := ⟨_, List.getElem?_eq_getElem (by omega)⟩
                    obtain ⟨gp, op, hA1, hbp, hcp⟩ := row_at (LawFrame.RowsAt.below HA1.out.2.1 HOW.out.old) hxp
                    subst hA1
                    have y1 := hcp 0 _ rfl
                    simp only [Nat.add_zero] at y1
                    have y2 : wr.cell? ⟨w.heap.size, 6, none⟩ = some (.slice (some ⟨gp, op, none⟩) ps.length a1) := (HK1.out.below HOW.out.old HK1.out.lt).cell 6
                    have HNM : Hid (nameAt (ps.map (fun d : Pt => d.name)) (jp : Int) = xp.name) := Lib.hid (nameAt_eq (by rw [List.getElem?_map, hxp]; rfl))
                    have HJ : Hid (cpts[j]? = some (jp : Int)) := Lib.hid hp
                    obtain ⟨xn, hxn⟩ : ∃ xn, xn = xp.name := ⟨_, rfl⟩
                    rw [← hxn] at y1 HNM
                    have HO := Lib.hid (one_str xn)
                    have hwr := HG.out.2.2.size
                    have hcl4 : cpts.length ≤ 8 := by have := HBN.out; omega
                    clear hcell hpm hxp hbp hcp hxn hp
                    go_wp2_with (at_builtin; refine Words.wpList_append_any _ rfl (.tmp 124) (.tmp 131) _ rfl w6.heap.size 9 i0 _ 1 16 Tryd.underlying48 hi0 hz0 hz1 hz2 rfl (by omega) u12 n _ rfl (HG.out.2.1.alloc _) (wr.heap.size + 1) (some ⟨wr.heap.size, 0, none⟩) 1 1 (sC xn) rfl (reads_str _ _ rfl xn _) HO.out (by simp only [maxLen]; omega) (by omega) (by simp; omega) ?_; intro v' w2 ho hg hat; have HG2 := Lib.hid (HG.out.app ho hg); clear ho hg hat)
                    go_roundw
                    case rel => exact ⟨j + 1, n + 1, by omega, by go_num, Lib.hid (by have h := HG2.out; rw [List.take_add_one, HJ.out]; simpa [HNM.out] using h)⟩
                    case measure => simp [intOf]; omega
                  · obtain rfl : j = cpts.length := by omega
                    have hj2 : ¬ (cpts.length : Int) < (cpts.length : Int) := by omega
                    rw [List.take_length] at HG
                    obtain ⟨sA, sc, e⟩ := own_form HG.out.2.1
                    subst e
                    have HS := Lib.hid (HS.out.below HG.out.2.2)
                    have HLM := Lib.hid (HLM.out.below HG.out.2.2 HLM.out.lt)
                    clear hjl hj
                    go_wp2_with fail
                    refine (add_S w1 _ _ HS.out ([bCause, nm, itoB n1, lampW n2, itoB n3] ++ cpts.map (nameAt (ps.map (fun d : Pt => d.name)))) n HG.out.1 _ _ ⟨_, HG.out.2.1⟩ HLN.out).mono ?_
                    rintro e w8 ⟨rfl, hps, hkk⟩
                    have HS := Lib.hid hps
                    have HLM := Lib.hid (hkk.blk (by decide) (by decide) HLM.out)
                    clear hps hkk
                    go_wp2_with fail
                    go_roundw
                    case rel => exact ⟨k + 1, by omega, by go_num, Lib.hid (by have h := HS.out; rw [List.take_add_one, HXX.out]; simpa [csW] using h), HLM⟩
                    case measure => simp [intOf]; omega
              · obtain rfl : k = cs.length := by omega
                rw [List.take_length] at HS
                clear hlt hk HLM
                have z8 : wr.cell? ⟨w.heap.size, 8, none⟩ = some (.slice A3 es.length a3) := (HK1.out.below HS.out.old HK1.out.lt).cell 8
                have hel : es.length ≤ 8 := HP.out.2.2.2.2.2.1.1
                go_wp2_with fail
                clear z8
                go_loopw [141] (fun i wr => ∃ k : Nat, k ≤ es.length ∧ i = .int .i64 k ∧ Hid (PrS w1 ((((([] ++ [[bWatch, itoB r, itoB wt, itoB bk, itoB cy]] ++ [[bKey, key]]) ++ ds.map devW) ++ ps.map (ptW (ds.map (fun d : Dev => d.name)))) ++ cs.map (csW (ps.map (fun d : Pt => d.name)))) ++ (es.take k).map (efW (ds.map (fun d : Dev => d.name)) (cs.map (fun d : Cs => d.name)))) wr)) (fun i _ => es.length - (intOf i).toNat)
                case atStart => exact ⟨0, Nat.zero_le _, rfl, by rw [List.take_zero, List.map_nil, List.append_nil]; exact HS⟩
                case round =>
                  clear HS
                  obtain ⟨k, hk, rfl, HS⟩ := hrel
                  by_cases hlt : k < es.length
                  · obtain ⟨x, hx⟩ : ∃ x, es[k]? = some x := ⟨_, List.getElem?_eq_getElem hlt⟩
                    obtain ⟨g, off, hA, hb, hcell⟩ := row_at (LawFrame.RowsAt.below HA1.out.2.2.2.1 HS.out.old) hx
                    subst hA
                    have y0 := hcell 0 _ rfl
                    have y1 := hcell 1 _ rfl
                    have y2 := hcell 2 _ rfl
                    have y3 := hcell 3 _ rfl
                    have y4 := hcell 4 _ rfl
                    simp only [Nat.add_zero] at y0
                    have HXX := Lib.hid hx
                    have hk1 : (k : Int) < (es.length : Int) := by omega
                    have hk0 : (0 : Int) ≤ (k : Int) := by omega
                    have hnx := HA1.out.2.2.2.2 x (List.mem_of_getElem? hx)
                    have hbn := HP.out.2.2.2.2.2.1.2 k x hx
                    have hpr := someP_range hbn.2.2.2.1
                    obtain ⟨nm, n1, n2, n3, v, cpts⟩ := x
                    obtain ⟨cA, cc, e, -, -⟩ := id hnx
                    simp only at e
                    subst e
                    unfold efP someP at hbn
                    simp only at y0 y1 y2 y3 y4 hbn hnx hpr
                    have HBN : Hid ((0 ≤ n1 ∧ n1 < (ds.length : Int)) ∧ (0 ≤ n2 ∧ n2 ≤ 255) ∧ (0 ≤ n3 ∧ n3 ≤ 1) ∧ cpts.length ≤ 8) := Lib.hid (by omega)
                    have HPR := Lib.hid hpr
                    have HNX := Lib.hid hnx
                    obtain ⟨jd, rfl⟩ : ∃ j : Nat, n1 = (j : Int) := ⟨n1.toNat, by have := HBN.out.1; omega⟩
                    have hj1 : (jd : Int) < (ds.length : Int) := HBN.out.1.2
                    have hj0 : (0 : Int) ≤ (jd : Int) := by omega
                    obtain ⟨xd, hxd⟩ : ∃ x, ds[jd]? = some x := ⟨_, List.getElem?_eq_getElem (by omega)⟩
                    have HDN : Hid (∃ gd od, A0 = some ⟨gd, od, none⟩ ∧ ∀ w', Below w1.heap.size w1 w' → w'.cell? ⟨gd, od + jd * 3, none⟩ = some (.string xd.name)) := Lib.hid (by
                      obtain ⟨gd, od, hA, hb2, hc2⟩ := row_at HA1.out.1 hxd
                      refine ⟨gd, od, hA, fun w' hw' => ?_⟩
                      obtain ⟨gd2, od2, hA2, -, hc3⟩ := row_at (LawFrame.RowsAt.below HA1.out.1 hw') hxd
                      rw [hA] at hA2
                      injection hA2 with hA2
                      injection hA2 with e1 e2 _
                      subst e1 e2
                      exact hc3 0 _ rfl)
                    obtain ⟨gd, od, hA0, hdn⟩ := HDN.out
                    have HDF := Lib.hid hdn
                    have HND : Hid (nameAt (ds.map (fun d : Dev => d.name)) (jd : Int) = xd.name) := Lib.hid (nameAt_eq (by rw [List.getElem?_map, hxd]; rfl))
                    subst hA0
                    have HLB := Lib.hid (Words.Blk.new wr 54 #[.string nm, .int .i64 (jd : Int), .int .i64 n2, .int .i64 n3, .slice cA cpts.length cc])
                    have HS := Lib.hid (HS.out.below ((Below.refl _ _).alloc (Nat.le_refl _) (.cells #[.string nm, .int .i64 (jd : Int), .int .i64 n2, .int .i64 n3, .slice cA cpts.length cc] 54)))
                    have HTT := Lib.hid (HT1.out.below HS.out.old (Nat.le_refl _))
                    have HLN : Hid (((((([] ++ [[bWatch, itoB r, itoB wt, itoB bk, itoB cy]] ++ [[bKey, key]]) ++ ds.map devW) ++ ps.map (ptW (ds.map (fun d : Dev => d.name)))) ++ cs.map (csW (ps.map (fun d : Pt => d.name)))) ++ (es.take k).map (efW (ds.map (fun d : Dev => d.name)) (cs.map (fun d : Cs => d.name)))).length ≤ 100000) := Lib.hid (by simp; omega)
                    clear hdn hxd hcell hb hx hnx hbn hpr
                    go_upto_region 32 with fail
                    clear y0 y1 y2 y3 y4
                    generalize wr.alloc (.cells #[.string nm, .int .i64 (jd : Int), .int .i64 n2, .int .i64 n3, .slice cA cpts.length cc] 54) = wa at *
                    obtain ⟨gg, hgg⟩ : ∃ gg, gg = wr.heap.size := ⟨_, rfl⟩
                    rw [← hgg] at HLB ⊢
                    clear hgg
                    have q0 : wa.cell? ⟨gg, 0, none⟩ = some (.string nm) := HLB.out.cell 0
                    have q1 : wa.cell? ⟨gg, 1, none⟩ = some (.int .i64 (jd : Int)) := HLB.out.cell 1
                    have q2 : wa.cell? ⟨gg, 2, none⟩ = some (.int .i64 n2) := HLB.out.cell 2
                    have q3 : wa.cell? ⟨gg, 3, none⟩ = some (.int .i64 n3) := HLB.out.cell 3
                    have q4 : wa.cell? ⟨w.heap.size, 5, none⟩ = some (.slice (some ⟨gd, od, none⟩) ds.length a0) := (HK1.out.below HS.out.old HK1.out.lt).cell 5
                    have q5 : wa.cell? ⟨gd, od + jd * 3, none⟩ = some (.string xd.name) := HDF.out _ HS.out.old
                    have HLB := Lib.hid (HLB.out.below (below_drewn (Below.refl _ _) 1) HLB.out.lt)
                    have HTT := Lib.hid (HTT.out.below (below_drewn (Below.refl _ _) 1) (Nat.le_refl _))
                    have HS := Lib.hid (HS.out.below (below_drewn (Below.refl _ _) 1))
                    go_region_held3 (fun w' => w'.cell? ⟨gg, 0, none⟩ = some (.string nm) ∧ w'.cell? ⟨gg, 1, none⟩ = some (.int .i64 (jd : Int)) ∧ w'.cell? ⟨gg, 2, none⟩ = some (.int .i64 n2) ∧ w'.cell? ⟨gg, 3, none⟩ = some (.int .i64 n3) ∧ w'.cell? ⟨w.heap.size, 5, none⟩ = some (.slice (some ⟨gd, od, none⟩) ds.length a0) ∧ w'.cell? ⟨gd, od + jd * 3, none⟩ = some (.string xd.name))
                      (first | exact ⟨q0, q1, q2, q3, q4, q5⟩ | exact za _)
                      (first
                        | (go_at_call 20; refine (whole_any _ _ (by have := HBN.out; omega) (by have := HBN.out; omega) HTT.out).mono ?_; rintro e w6 ⟨rfl, hg⟩; have hbl := below_grown hg; have HLB := Lib.hid (HLB.out.below hbl HLB.out.lt); have HTT := Lib.hid (HTT.out.below hbl (Nat.le_refl _)); have HS := Lib.hid (HS.out.below hbl); have q0 : w6.cell? ⟨gg, 0, none⟩ = some (.string nm) := HLB.out.cell 0; have q1 : w6.cell? ⟨gg, 1, none⟩ = some (.int .i64 (jd : Int)) := HLB.out.cell 1; have q2 : w6.cell? ⟨gg, 2, none⟩ = some (.int .i64 n2) := HLB.out.cell 2; have q3 : w6.cell? ⟨gg, 3, none⟩ = some (.int .i64 n3) := HLB.out.cell 3; have q4 : w6.cell? ⟨w.heap.size, 5, none⟩ = some (.slice (some ⟨gd, od, none⟩) ds.length a0) := (HK1.out.below HS.out.old HK1.out.lt).cell 5; have q5 : w6.cell? ⟨gd, od + jd * 3, none⟩ = some (.string xd.name) := HDF.out _ HS.out.old; have za : ∀ ob : Obj, (w6.alloc ob).cell? ⟨gg, 0, none⟩ = some (.string nm) ∧ (w6.alloc ob).cell? ⟨gg, 1, none⟩ = some (.int .i64 (jd : Int)) ∧ (w6.alloc ob).cell? ⟨gg, 2, none⟩ = some (.int .i64 n2) ∧ (w6.alloc ob).cell? ⟨gg, 3, none⟩ = some (.int .i64 n3) ∧ (w6.alloc ob).cell? ⟨w.heap.size, 5, none⟩ = some (.slice (some ⟨gd, od, none⟩) ds.length a0) ∧ (w6.alloc ob).cell? ⟨gd, od + jd * 3, none⟩ = some (.string xd.name) := fun ob => ⟨(HLB.out.alloc ob).cell 0, (HLB.out.alloc ob).cell 1, (HLB.out.alloc ob).cell 2, (HLB.out.alloc ob).cell 3, (HK1.out.below (HS.out.old.alloc HS.out.old.size ob) HK1.out.lt).cell 5, HDF.out _ (HS.out.old.alloc HS.out.old.size ob)⟩; clear hbl hg)
                        | (go_at_call 19; refine (whole64_any _ _ (by have := HBN.out; omega) (by have := HBN.out; omega) HTT.out).mono ?_; rintro e w6 ⟨rfl, hg⟩; have hbl := below_grown hg; have HLB := Lib.hid (HLB.out.below hbl HLB.out.lt); have HTT := Lib.hid (HTT.out.below hbl (Nat.le_refl _)); have HS := Lib.hid (HS.out.below hbl); have q0 : w6.cell? ⟨gg, 0, none⟩ = some (.string nm) := HLB.out.cell 0; have q1 : w6.cell? ⟨gg, 1, none⟩ = some (.int .i64 (jd : Int)) := HLB.out.cell 1; have q2 : w6.cell? ⟨gg, 2, none⟩ = some (.int .i64 n2) := HLB.out.cell 2; have q3 : w6.cell? ⟨gg, 3, none⟩ = some (.int .i64 n3) := HLB.out.cell 3; have q4 : w6.cell? ⟨w.heap.size, 5, none⟩ = some (.slice (some ⟨gd, od, none⟩) ds.length a0) := (HK1.out.below HS.out.old HK1.out.lt).cell 5; have q5 : w6.cell? ⟨gd, od + jd * 3, none⟩ = some (.string xd.name) := HDF.out _ HS.out.old; have za : ∀ ob : Obj, (w6.alloc ob).cell? ⟨gg, 0, none⟩ = some (.string nm) ∧ (w6.alloc ob).cell? ⟨gg, 1, none⟩ = some (.int .i64 (jd : Int)) ∧ (w6.alloc ob).cell? ⟨gg, 2, none⟩ = some (.int .i64 n2) ∧ (w6.alloc ob).cell? ⟨gg, 3, none⟩ = some (.int .i64 n3) ∧ (w6.alloc ob).cell? ⟨w.heap.size, 5, none⟩ = some (.slice (some ⟨gd, od, none⟩) ds.length a0) ∧ (w6.alloc ob).cell? ⟨gd, od + jd * 3, none⟩ = some (.string xd.name) := fun ob => ⟨(HLB.out.alloc ob).cell 0, (HLB.out.alloc ob).cell 1, (HLB.out.alloc ob).cell 2, (HLB.out.alloc ob).cell 3, (HK1.out.below (HS.out.old.alloc HS.out.old.size ob) HK1.out.lt).cell 5, HDF.out _ (HS.out.old.alloc HS.out.old.size ob)⟩; clear hbl hg))
                    clear q0 q1 q2 q3 q4 q5 hj1 hj0
                    have HG0 : Hid (GatS w6 ([bEffect, nm, xd.name, itoB n2, itoB n3] ++ (cpts.take 0).map (nameAt (cs.map (fun d : Cs => d.name)))) 5 (.slice (some ⟨w6.heap.size, 0, none⟩) 5 5) (w6.alloc (.cells #[.string ⟨#[101, 102, 102, 101, 99, 116]⟩, .string nm, .string xd.name, .string (itoB n2), .string (itoB n3)] 9))) := Lib.hid ⟨rfl, lit_own w6 [bEffect, nm, xd.name, itoB n2, itoB n3] (by simp), (Below.refl _ _).alloc (Nat.le_refl _) _⟩
                    have q4 : (w6.alloc (.cells #[.string ⟨#[101, 102, 102, 101, 99, 116]⟩, .string nm, .string xd.name, .string (itoB n2), .string (itoB n3)] 9)).cell? ⟨gg, 4, none⟩ = some (.slice cA cpts.length cc) := (HLB.out.alloc _).cell 4
                    clear HTT HDF
                    go_wp2_with fail
                    clear q4 za
                    go_loopw [17, 164] (fun s i wr => ∃ j n : Nat, j ≤ cpts.length ∧ i = .int .i64 j ∧ Hid (GatS w6 ([bEffect, nm, xd.name, itoB n2, itoB n3] ++ (cpts.take j).map (nameAt (cs.map (fun d : Cs => d.name)))) n s wr)) (fun _ i _ => cpts.length - (intOf i).toNat)
                    case atStart => exact ⟨0, 5, Nat.zero_le _, rfl, HG0⟩
                    case round =>
                      clear HG0
                      obtain ⟨j, n, hj, rfl, HG⟩ := hrel
                      have hn : n ≤ 5 + j := by have := HG.out.1; simp at this; omega
                      by_cases hjl : j < cpts.length
                      · obtain ⟨p, hp⟩ : ∃ p, cpts[j]? = some p := ⟨_, List.getElem?_eq_getElem hjl⟩
                        have HOW := Lib.hid (HS.out.below HG.out.2.2)
                        obtain ⟨cg, co, hcA, hcell⟩ := one_at (NumsAt.below HNX.out HOW.out.old) hp
                        subst hcA
                        have y0 := hcell _ rfl
                        have hpm := HPR.out p (List.mem_of_getElem? hp)
                        obtain ⟨jp, rfl⟩ : ∃ jp : Nat, p = (jp : Int) := ⟨p.toNat, by omega⟩
                        have hp1 : (jp : Int) < (cs.length : Int) := hpm.2
                        have hp0 : (0 : Int) ≤ (jp : Int) := by omega
                        have hj1 : (j : Int) < (cpts.length : Int) := by omega
                        have hj0 : (0 : Int) ≤ (j : Int) := by omega
                        obtain ⟨xp, hxp⟩ : ∃ x, cs[jp]? = some x := ⟨_, List.getElem?_eq_getElem (by omega)⟩
                        obtain ⟨gp, op, hA1, hbp, hcp⟩ := row_at (LawFrame.RowsAt.below HA1.out.2.2.1.1 HOW.out.old) hxp
                        subst hA1
                        have y1 := hcp 0 _ rfl
                        simp only [Nat.add_zero] at y1
                        have y2 : wr.cell? ⟨w.heap.size, 7, none⟩ = some (.slice (some ⟨gp, op, none⟩) cs.length a2) := (HK1.out.below HOW.out.old HK1.out.lt).cell 7
                        have HNM : Hid (nameAt (cs.map (fun d : Cs => d.name)) (jp : Int) = xp.name) := Lib.hid (nameAt_eq (by rw [List.getElem?_map, hxp]; rfl))
                        have HJ : Hid (cpts[j]? = some (jp : Int)) := Lib.hid hp
                        obtain ⟨xn, hxn⟩ : ∃ xn, xn = xp.name := ⟨_, rfl⟩
                        rw [← hxn] at y1 HNM
                        have HO := Lib.hid (one_str xn)
                        have hwr := HG.out.2.2.size
                        have hcl4 : cpts.length ≤ 8 := by have := HBN.out; omega
                        clear hcell hpm hxp hbp hcp hxn hp
                        go_wp2_with (at_builtin; refine Words.wpList_append_any _ rfl (.tmp 168) (.tmp 175) _ rfl w6.heap.size 9 i0 _ 1 16 Tryd.underlying48 hi0 hz0 hz1 hz2 rfl (by omega) u17 n _ rfl (HG.out.2.1.alloc _) (wr.heap.size + 1) (some ⟨wr.heap.size, 0, none⟩) 1 1 (sC xn) rfl (reads_str _ _ rfl xn _) HO.out (by simp only [maxLen]; omega) (by omega) (by simp; omega) ?_; intro v' w2 ho hg hat; have HG2 := Lib.hid (HG.out.app ho hg); clear ho hg hat)
                        go_roundw
                        case rel => exact ⟨j + 1, n + 1, by omega, by go_num, Lib.hid (by have h := HG2.out; rw [List.take_add_one, HJ.out]; simpa [HNM.out] using h)⟩
                        case measure => simp [intOf]; omega
                      · obtain rfl : j = cpts.length := by omega
                        have hj2 : ¬ (cpts.length : Int) < (cpts.length : Int) := by omega
                        rw [List.take_length] at HG
                        obtain ⟨sA, sc, e⟩ := own_form HG.out.2.1
                        subst e
                        have HS := Lib.hid (HS.out.below HG.out.2.2)
                        clear hjl hj
                        go_wp2_with fail
                        refine (add_S w1 _ _ HS.out ([bEffect, nm, xd.name, itoB n2, itoB n3] ++ cpts.map (nameAt (cs.map (fun d : Cs => d.name)))) n HG.out.1 _ _ ⟨_, HG.out.2.1⟩ HLN.out).mono ?_
                        rintro e w8 ⟨rfl, hps, hkk⟩
                        have HS := Lib.hid hps
                        clear hps hkk
                        go_wp2_with fail
                        go_roundw
                        case rel => exact ⟨k + 1, by omega, by go_num, Lib.hid (by have h := HS.out; rw [List.take_add_one, HXX.out]; simpa [efW, HND.out] using h)⟩
                        case measure => simp [intOf]; omega
                  · obtain rfl : k = es.length := by omega
                    rw [List.take_length] at HS
                    clear hlt hk
                    obtain ⟨xs, hpa, hxs⟩ := HS.out
                    obtain ⟨v, hvb, hvo⟩ := hpa.at_
                    obtain ⟨vA, vc, e⟩ := own_form hvo
                    subst e
                    have zl : wr.cell? ⟨w1.heap.size, 0, none⟩ = some (.slice vA xs.length vc) := hvb.cell 0
                    have HLS : Hid (LsAt wr xs (.slice vA xs.length vc)) := Lib.hid (pr_ls hpa hvo (by rw [hxs]; exact words_few HP.out (by unfold linesOf tailOf watchW keyW dsN psN csN; simp)))
                    have HXS : Hid (xs.map Ln.bs = bytesL (linesOf ⟨r, wt, bk, cy, key, ds, ps, cs, es⟩)) := Lib.hid (pr_bs hxs (by unfold linesOf tailOf watchW keyW dsN psN csN; simp))
                    have hln : xs.length ≤ 38 := by
                      have h1 := congrArg List.length HXS.out
                      rw [List.length_map, bytesL_len] at h1
                      have := (lines_len HP.out).1
                      omega
                    have HBO := Lib.hid (HB1.out.trans (HS.out.old.mono HB1.out.size))
                    clear hpa hxs hvb hvo HS
                    go_wp2_with fail
                    refine (print_s _ xs _ HLS.out (by omega) (by rw [HXS.out]; have := text_len HP.out; omega)).mono ?_
                    rintro e w9 ⟨P, rfl, hP, hb9⟩
                    have HPE := Lib.hid hP
                    have HB9 := Lib.hid (HBO.out.trans (hb9.mono HBO.out.size))
                    clear hP hb9
                    go_wp2_with fail
                    go_ret
                    exact ⟨by rw [HTX.out, HPE.out, HXS.out]; rfl, HB9.out⟩
end Go.Proofs.YtckbdnkonccmiaaDoor
