/-
  The numbers of those of a list of which something is so; slices.Contains and the tests that capture, walked.
-/
import Derived.Test.YtbpenoelmangkaaMatHas
import Derived.Test.YtbpenoelmangkaaMatLib10
namespace Go.Proofs.Ytbpenoelmangkaa
open Go.RowKit
/-- is the k-th one so? -/
def soAt {α : Type} (p : α → Bool) (l : List α) (k : Nat) : Bool := match l[k]? with | some x => p x | none => false
theorem soAt_of {α : Type} {p : α → Bool} {l : List α} {k : Nat} {x : α} (h : l[k]? = some x) : soAt p l k = p x := by unfold soAt; rw [h]
def idsUpto {α : Type} (p : α → Bool) (l : List α) (k : Nat) : List Int := ((List.range k).filter (soAt p l)).map (fun i : Nat => (i : Int))
def ids {α : Type} (p : α → Bool) (l : List α) : List Int := idsUpto p l l.length
theorem idsUpto_zero {α : Type} (p : α → Bool) (l : List α) : idsUpto p l 0 = [] := rfl
theorem idsUpto_yes {α : Type} {p : α → Bool} {l : List α} {k : Nat} {x : α} (hx : l[k]? = some x) (hp : p x = true) : idsUpto p l (k + 1) = idsUpto p l k ++ [(k : Int)] := by
  unfold idsUpto
  rw [List.range_succ, List.filter_append, List.map_append]
  simp [List.filter, soAt_of hx, hp]
theorem idsUpto_no {α : Type} {p : α → Bool} {l : List α} {k : Nat} {x : α} (hx : l[k]? = some x) (hp : p x = false) : idsUpto p l (k + 1) = idsUpto p l k := by
  unfold idsUpto
  rw [List.range_succ, List.filter_append, List.map_append]
  simp [List.filter, soAt_of hx, hp]
theorem idsUpto_len {α : Type} (p : α → Bool) (l : List α) (k : Nat) : (idsUpto p l k).length ≤ k := by
  unfold idsUpto
  rw [List.length_map]
  exact Nat.le_trans (List.length_filter_le _ _) (by simp)
theorem mem_ids {α : Type} {p : α → Bool} {l : List α} {i : Int} : i ∈ ids p l ↔ ∃ (k : Nat) (x : α), i = (k : Int) ∧ l[k]? = some x ∧ p x = true := by
  unfold ids idsUpto
  constructor
  · intro h
    obtain ⟨k, hk, rfl⟩ := List.mem_map.1 h
    obtain ⟨hk, hp⟩ := List.mem_filter.1 hk
    have hk := List.mem_range.1 hk
    refine ⟨k, l[k], rfl, List.getElem?_eq_getElem hk, ?_⟩
    rw [← hp, soAt_of (List.getElem?_eq_getElem hk)]
  · rintro ⟨k, x, rfl, hx, hp⟩
    refine List.mem_map.2 ⟨k, List.mem_filter.2 ⟨List.mem_range.2 (List.getElem?_eq_some_iff.1 hx).1, ?_⟩, rfl⟩
    rw [soAt_of hx, hp]
theorem own_below {w w' : World} {base : Nat} {e : TypeId} {size n : Nat} {v : Value} {xs : List Value} (h : w.ownsRow base e size v n xs) (hb : Below w.heap.size w w') : w'.ownsRow base e size v n xs := by
  obtain ⟨hl, h⟩ := h
  refine ⟨hl, ?_⟩
  rcases h with h | ⟨g, cap, cur, h1, h2, hg, h3⟩
  · exact .inl h
  · exact .inr ⟨g, cap, cur, h1, h2, (hb.block g (Array.getElem?_eq_some_iff.1 hg).1).trans hg, h3⟩
theorem int_info : (Try.prog.info? 3).map (fun i => (i.zero, i.size, i.bytes)) = some (some (.int .i64 0), 1, 8) := by kernel_rfl
theorem int_parts : ∃ i, Try.prog.info? 3 = some i ∧ i.zero = some (.int .i64 0) ∧ i.size = 1 ∧ i.bytes = 8 := by
  have h := int_info
  cases e : Try.prog.info? 3 with
  | none => rw [e] at h; cases h
  | some i =>
    rw [e] at h
    simp only [Option.map_some, Option.some.injEq, Prod.mk.injEq] at h
    exact ⟨i, rfl, h.1, h.2.1, h.2.2⟩
/-- the numbers that are gathered lie at vo -/
def PickIs (W0 : World) (l : List Int) (n : Nat) (vo : Value) (wr : World) : Prop :=
  n = l.length ∧ wr.ownsRow W0.heap.size 3 1 vo n (l.flatMap nC) ∧ Below W0.heap.size W0 wr
theorem PickIs.app {W0 wr w2 : World} {n : Nat} {l l' : List Int} {x : Int} {vo v' : Value} {ob : Obj} (h : PickIs W0 l n vo wr)
    (ho : w2.ownsRow W0.heap.size 3 1 v' (n + 1) (l.flatMap nC ++ nC x)) (hg : (wr.alloc ob).grownBy w2 vo.ownBlock) (hl : l' = l ++ [x]) : PickIs W0 l' (n + 1) v' w2 := by
  subst hl
  exact ⟨by simp [h.1], by simpa using ho, (h.2.2.alloc h.2.2.size ob).grown hg (by have := h.2.2.size; simp; omega) (fun k hk => (h.2.1.lt k hk).1)⟩
theorem PickIs.below {W0 wr w2 : World} {n : Nat} {l : List Int} {vo : Value} (h : PickIs W0 l n vo wr) (hb : Below wr.heap.size wr w2) : PickIs W0 l n vo w2 :=
  ⟨h.1, own_below h.2.1 hb, h.2.2.trans (hb.mono h.2.2.size)⟩
theorem PickIs.ends {W0 wr : World} {n : Nat} {l : List Int} {vo : Value} (h : PickIs W0 l n vo wr) : NumsAt wr l vo := LawFrame.RowsAt.of_own nC_len (by decide) h.2.1
theorem reads_int (w : World) (g : Nat) (hg : w.heap.size = g) (x : Int) (t : TypeId) : Words.Reads (w.alloc (.cells #[.int .i64 x] t)) (g + 1) 1 (some ⟨g, 0, none⟩) 1 (nC x) := by
  subst hg
  exact LawFrame.reads_block (xs := nC x) (t := t) (heap_alloc_new w _) (by omega) rfl
theorem one_int (x : Int) : ∀ u ∈ nC x, u.oneCell' = true := by
  intro u hu
  simp only [nC, List.mem_singleton] at hu
  subst hu; rfl
def IndexIs (l : List Int) (n : Int) (w : World) (e : Ending) (w' : World) : Prop := ∃ r : Int, e = .returned (.int .i64 r) ∧ (0 ≤ r ↔ n ∈ l) ∧ w = w'
set_option maxHeartbeats 4000000 in
set_option maxRecDepth 100000 in
theorem index_any (w : World) (l : List Int) (v : Value) (h : NumsAt w l v) (hl : l.length ≤ 1125899906842624) (n : Int) :
    Calls Try.prog 52 #[v, .int .i64 n] w (IndexIs l n w) := by
  obtain ⟨A, c, e, hc, -⟩ := id h
  subst e
  have HL := Lib.hid h
  clear h
  go_enter Try.func52, Try.ntmps52
  go_wp2_with fail
  go_loopw [8] (fun i wr => ∃ k : Nat, k ≤ l.length ∧ i = .int .i64 k ∧ Hid (Upto (fun _ x => ¬ x = n) l k) ∧ Hid (w = wr)) (fun i _ => l.length - (intOf i).toNat)
  case atStart => exact ⟨0, Nat.zero_le _, rfl, Lib.hid (upto_zero _ _), Lib.hid rfl⟩
  case round =>
    obtain ⟨k, hk, rfl, HU, HW⟩ := hrel
    by_cases hlt : k < l.length
    · obtain ⟨x, hx⟩ : ∃ x, l[k]? = some x := ⟨_, List.getElem?_eq_getElem hlt⟩
      obtain ⟨b, off, hA, hcell⟩ := one_at (w := wr) (by rw [← HW.out]; exact HL.out) hx
      subst hA
      have y0 := hcell _ rfl
      have HX := Lib.hid hx
      have hk1 : (k : Int) < (l.length : Int) := by omega
      have hk0 : (0 : Int) ≤ (k : Int) := by omega
      clear hx hcell
      by_cases e : x = n
      · have HY := Lib.hid (show n ∈ l by rw [← e]; exact List.mem_of_getElem? HX.out)
        have h1 : (n == x) = true := by simp [e]
        clear e
        go_wp2_with fail
        go_ret
        exact ⟨_, rfl, ⟨fun _ => HY.out, fun _ => by omega⟩, HW.out⟩
      · have HE := Lib.hid e
        have h1 : (n == x) = false := by simp; exact fun h => e h.symm
        clear e
        go_wp2_with fail
        go_roundw
        case rel => exact ⟨k + 1, by omega, by go_num, Lib.hid (upto_step HU.out HX.out HE.out), HW⟩
        case measure => simp [intOf]; omega
    · have hkl : k = l.length := by omega
      have HA := Lib.hid (upto_all (by rw [← hkl]; exact HU.out))
      clear hkl
      have hk2 : ¬ (k : Int) < (l.length : Int) := by omega
      have HN : Hid (∃ r : Int, -1 = r ∧ (0 ≤ r ↔ n ∈ l)) := Lib.hid ⟨-1, rfl, fun h => absurd h (by decide), fun hm => by obtain ⟨i, hi⟩ := List.getElem?_of_mem hm; exact absurd rfl (HA.out i n hi)⟩
      go_wp2_with fail
      go_ret
      obtain ⟨r, hr, hn⟩ := HN.out
      subst hr; exact ⟨_, rfl, hn, HW.out⟩
set_option maxHeartbeats 4000000 in
set_option maxRecDepth 100000 in
theorem contains_any (w : World) (l : List Int) (v : Value) (h : NumsAt w l v) (hl : l.length ≤ 1125899906842624) (n : Int) :
    Calls Try.prog 35 #[v, .int .i64 n] w fun e w' => e = .returned (.bool (decide (n ∈ l))) ∧ w = w' := by
  obtain ⟨b, hb⟩ : ∃ b, b = decide (n ∈ l) := ⟨_, rfl⟩
  rw [← hb]
  have HB := Lib.hid hb
  clear hb
  obtain ⟨A, c, e, hc, -⟩ := id h
  subst e
  have HL := Lib.hid h
  clear h
  go_enter Try.func35, Try.ntmps35
  go_wp2_with fail
  refine (index_any _ l _ HL.out hl n).mono ?_
  rintro e w1 ⟨r, rfl, hr, rfl⟩
  have HR := Lib.hid hr
  clear hr
  by_cases h0 : 0 ≤ r
  · have HT := Lib.hid (show b = true by rw [HB.out, decide_eq_true (HR.out.1 h0)])
    go_wp2_with fail
    go_ret
    exact ⟨by rw [HT.out]; rfl, rfl⟩
  · have HT := Lib.hid (show b = false by rw [HB.out, decide_eq_false (fun h => h0 (HR.out.2 h))])
    go_wp2_with fail
    go_ret
    refine ⟨?_, rfl⟩
    rw [HT.out]
    show Ending.returned (.bool (decide (0 ≤ r))) = _
    rw [decide_eq_false (by omega)]
set_option maxHeartbeats 4000000 in
set_option maxRecDepth 100000 in
theorem efHas_any (w : World) (x : Ef) (hx : NumsAt w x.cs x.v) (hl : x.cs.length ≤ 1125899906842624) (B : Nat) (c : Int) (hB : Words.Blk w B 3 #[.int .i64 c]) :
    Calls Try.prog 34 #[.agg #[.string x.name, .int .i64 x.dev, .int .i64 x.place, .int .i64 x.safe, x.v], .pointer (some ⟨B, 0, none⟩)] w fun e w' => e = .returned (.bool (decide (c ∈ x.cs))) ∧ Below w.heap.size w w' := by
  obtain ⟨xn, xd, xp, xs, xv, xc⟩ := x
  simp only at hx hl ⊢
  obtain ⟨A, cp, e, hc, -⟩ := id hx
  subst e
  have HQ : Hid (Below w.heap.size w (w.alloc (.cells #[.string xn, .int .i64 xd, .int .i64 xp, .int .i64 xs, .slice A xc.length cp] 39))) := Lib.hid ((Below.refl _ _).alloc (Nat.le_refl _) _)
  have z0 : (w.alloc (.cells #[.string xn, .int .i64 xd, .int .i64 xp, .int .i64 xs, .slice A xc.length cp] 39)).cell? ⟨B, 0, none⟩ = some (.int .i64 c) := (hB.alloc _).cell 0
  have HL := Lib.hid (NumsAt.below hx HQ.out)
  clear hx hB
  go_enter Try.func34, Try.ntmps34
  go_wp2_with fail
  refine (contains_any _ xc _ HL.out hl c).mono ?_
  rintro e w1 ⟨rfl, rfl⟩
  go_wp2_with fail
  go_ret
  exact ⟨rfl, HQ.out⟩
set_option maxHeartbeats 4000000 in
set_option maxRecDepth 100000 in
theorem csHas_any (w : World) (x : Cs) (hx : NumsAt w x.pts x.v) (hl : x.pts.length ≤ 1125899906842624) (B : Nat) (c : Int) (hB : Words.Blk w B 3 #[.int .i64 c]) :
    Calls Try.prog 37 #[.agg #[.string x.name, .int .i64 x.votes, .int .i64 x.lamp, .int .i64 x.limit, x.v], .pointer (some ⟨B, 0, none⟩)] w fun e w' => e = .returned (.bool (decide (c ∈ x.pts))) ∧ Below w.heap.size w w' := by
  obtain ⟨xn, xd, xp, xs, xv, xc⟩ := x
  simp only at hx hl ⊢
  obtain ⟨A, cp, e, hc, -⟩ := id hx
  subst e
  have HQ : Hid (Below w.heap.size w (w.alloc (.cells #[.string xn, .int .i64 xd, .int .i64 xp, .int .i64 xs, .slice A xc.length cp] 42))) := Lib.hid ((Below.refl _ _).alloc (Nat.le_refl _) _)
  have z0 : (w.alloc (.cells #[.string xn, .int .i64 xd, .int .i64 xp, .int .i64 xs, .slice A xc.length cp] 42)).cell? ⟨B, 0, none⟩ = some (.int .i64 c) := (hB.alloc _).cell 0
  have HL := Lib.hid (NumsAt.below hx HQ.out)
  clear hx hB
  go_enter Try.func37, Try.ntmps37
  go_wp2_with fail
  refine (contains_any _ xc _ HL.out hl c).mono ?_
  rintro e w1 ⟨rfl, rfl⟩
  go_wp2_with fail
  go_ret
  exact ⟨rfl, HQ.out⟩
set_option maxHeartbeats 4000000 in
set_option maxRecDepth 100000 in
theorem ptOf_any (w : World) (x : Pt) (B : Nat) (c : Int) (hB : Words.Blk w B 3 #[.int .i64 c]) :
    Calls Try.prog 31 #[.agg #[.string x.name, .int .i64 x.dev, .int .i64 x.place, .int .i64 x.trip, .int .i64 x.on, .int .i64 x.off], .pointer (some ⟨B, 0, none⟩)] w fun e w' => e = .returned (.bool (x.dev == c)) ∧ Below w.heap.size w w' := by
  obtain ⟨xn, xd, xp, xt, xo, xf⟩ := x
  simp only
  have HQ : Hid (Below w.heap.size w (w.alloc (.cells #[.string xn, .int .i64 xd, .int .i64 xp, .int .i64 xt, .int .i64 xo, .int .i64 xf] 35))) := Lib.hid ((Below.refl _ _).alloc (Nat.le_refl _) _)
  have z0 : (w.alloc (.cells #[.string xn, .int .i64 xd, .int .i64 xp, .int .i64 xt, .int .i64 xo, .int .i64 xf] 35)).cell? ⟨B, 0, none⟩ = some (.int .i64 c) := (hB.alloc _).cell 0
  clear hB
  obtain ⟨b, hb⟩ : ∃ b, b = (xd == c) := ⟨_, rfl⟩
  rw [← hb]
  have HB := Lib.hid hb
  clear hb
  go_enter Try.func31, Try.ntmps31
  go_wp2_with fail
  go_ret
  exact ⟨by rw [HB.out]; rfl, HQ.out⟩
set_option maxHeartbeats 4000000 in
set_option maxRecDepth 100000 in
/-- an effect on a line, by its device -/
theorem efOn_any (w : World) (x : Ef) (vals : Array Value) (ds : List Dev) (Ad : Option Addr) (cd : Nat) (hds : DevsAt w ds (.slice Ad ds.length cd)) (hdl : ds.length ≤ 1000) (hv5 : vals[5]? = some (.slice Ad ds.length cd)) (d : Dev) (k : Nat) (hk : x.dev = (k : Int)) (hd : ds[k]? = some d)
    (BM B : Nat) (c : Int) (hBM : Words.Blk w BM 27 vals) (hB : Words.Blk w B 3 #[.int .i64 c]) :
    Calls Try.prog 38 #[.agg #[.string x.name, .int .i64 x.dev, .int .i64 x.place, .int .i64 x.safe, x.v], .pointer (some ⟨BM, 0, none⟩), .pointer (some ⟨B, 0, none⟩)] w fun e w' => e = .returned (.bool (d.line == c)) ∧ Below w.heap.size w w' := by
  obtain ⟨xn, xd, xp, xs, xv, xc⟩ := x
  simp only at hk ⊢
  subst hk
  have HQ : Hid (Below w.heap.size w (w.alloc (.cells #[.string xn, .int .i64 k, .int .i64 xp, .int .i64 xs, xv] 39))) := Lib.hid ((Below.refl _ _).alloc (Nat.le_refl _) _)
  have z0 : (w.alloc (.cells #[.string xn, .int .i64 k, .int .i64 xp, .int .i64 xs, xv] 39)).cell? ⟨B, 0, none⟩ = some (.int .i64 c) := (hB.alloc _).cell 0
  have z5 : (w.alloc (.cells #[.string xn, .int .i64 k, .int .i64 xp, .int .i64 xs, xv] 39)).cell? ⟨BM, 5, none⟩ = some (.slice Ad ds.length cd) := ((hBM.alloc _).cell 5).trans hv5
  obtain ⟨b, off, hA, hb, hcell⟩ := row_at (LawFrame.RowsAt.below hds HQ.out) hd
  subst hA
  have y0 := hcell 0 _ rfl
  have y1 := hcell 1 _ rfl
  have y2 := hcell 2 _ rfl
  simp only [Nat.add_zero] at y0
  have hkl : k < ds.length := (List.getElem?_eq_some_iff.1 hd).1
  have hk1 : (k : Int) < (ds.length : Int) := by omega
  have hk0 : (0 : Int) ≤ (k : Int) := by omega
  clear hB hBM hds hcell hb hd hv5
  obtain ⟨dn, dl, du⟩ := d
  simp only at y0 y1 y2 ⊢
  obtain ⟨b, hb⟩ : ∃ b, b = (dl == c) := ⟨_, rfl⟩
  rw [← hb]
  have HB := Lib.hid hb
  clear hb
  go_enter Try.func38, Try.ntmps38
  go_upto_region 1 with fail
  go_quiet (fail)
  have HW1 := Lib.hid (below_drewn HQ.out nq)
  clear z0 z5 y0 y1 y2 HQ
  generalize (w.alloc (.cells #[.string xn, .int .i64 k, .int .i64 xp, .int .i64 xs, xv] 39)).drewN nq = wa at *
  go_wp2_with fail
  go_ret
  exact ⟨by rw [HB.out]; rfl, HW1.out⟩
end Go.Proofs.Ytbpenoelmangkaa
