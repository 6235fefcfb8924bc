/-
  New, walked.
-/
import Derived.Test.YtcaobjmngdlklaaLatchSeen
import Derived.LoopTactic
import Derived.OwnWalk
namespace Go.Proofs.Ytcaobjmngdlklaa
open Go.RowKit
theorem made_flat {α : Type} {f : α → List Value} {z : Array Value} {m : Nat} (hm : 0 < m) (hf : ∀ x, (f x).length = m) (l : List α) (hl : ∀ x ∈ l, f x = z.toList) : (madeCells z (l.length * m)).toList = l.flatMap f := by
  apply List.ext_getElem?
  intro j
  by_cases hj : j < l.length * m
  · have hi : j / m < l.length := Nat.div_lt_of_lt_mul (by rw [Nat.mul_comm]; exact hj)
    have hd : j % m < m := Nat.mod_lt _ hm
    have he : j / m * m + j % m = j := by rw [Nat.mul_comm]; exact Nat.div_add_mod j m
    have h1 := LawFrame.flat_at hf l (j / m) l[j / m] (List.getElem?_eq_getElem hi) (j % m) hd
    rw [he] at h1
    have hx := hl l[j / m] (List.getElem_mem hi)
    have hz : z.size = m := by have := congrArg List.length hx; rw [hf] at this; simpa using this.symm
    rw [h1, hx]
    simp [madeCells, hj, hz, hd]
  · have h1 : (l.flatMap f).length = l.length * m := LawFrame.flat_len hf l
    rw [List.getElem?_eq_none (l := l.flatMap f) (by rw [h1]; omega)]
    simp [madeCells, hj]
theorem one_info : (Try.prog.info? 50).map (fun i => (i.zero, i.size, i.bytes)) = some (some (.agg #[.bool false, .int .i64 0, .bool false, .int .i64 0]), 4, 32) := by kernel_rfl
def noneSet (n : Nat) : List One := List.replicate n ⟨false, 0, 0⟩
/-- the numbers of groups are laid, so many -/
def Laid (gs : List Int) (k : Nat) (l : List One) : Prop := l.length = gs.length ∧ ∀ i, i < gs.length → l[i]? = some (if i < k then ⟨false, 0, gs.getD i 0⟩ else ⟨false, 0, 0⟩)
theorem laid_start (gs : List Int) : Laid gs 0 (noneSet gs.length) := ⟨by simp [noneSet], fun i hi => by simp [noneSet, hi]⟩
theorem laid_step {gs : List Int} {k : Nat} {l : List One} (h : Laid gs k l) {x : Int} (hx : gs[k]? = some x) : Laid gs (k + 1) (l.set k ⟨false, 0, x⟩) := by
  have hk : k < gs.length := (List.getElem?_eq_some_iff.1 hx).1
  refine ⟨by rw [List.length_set]; exact h.1, fun i hi => ?_⟩
  by_cases hik : i = k
  · subst hik
    rw [List.getElem?_set_self (by rw [h.1]; exact hi), if_pos (by omega)]
    simp [List.getD_eq_getElem?_getD, hx]
  · rw [List.getElem?_set_ne (Ne.symm hik), h.2 i hi]
    by_cases h1 : i < k
    · rw [if_pos h1, if_pos (by omega)]
    · rw [if_neg h1, if_neg (by omega)]
theorem laid_end {gs : List Int} {l : List One} (h : Laid gs gs.length l) : l = (fresh gs).l := by
  apply List.ext_getElem?
  intro i
  by_cases hi : i < gs.length
  · rw [h.2 i hi, if_pos hi]
    simp [fresh, hi, List.getD_eq_getElem?_getD]
  · rw [List.getElem?_eq_none (by rw [h.1]; omega), List.getElem?_eq_none (by simp [fresh]; omega)]
/-- a latch's group is laid -/
theorem LAt.regroup {B g m1 m2 N n b c k : Nat} {s : LS} {w : World} {o : One} (h : LAt B g (.slice (some ⟨b, 0, none⟩) n c) m1 m2 N s w) (ho : s.l[k]? = some o) (x : Int) (hx : Fit64 x) :
    LAt B g (.slice (some ⟨b, 0, none⟩) n c) m1 m2 N { s with l := s.l.set k { o with grp := x } } (w.setCell ⟨b, k * 4 + 3, none⟩ (.int .i64 x)) := by
  obtain ⟨e1, e2, e3, _, _⟩ := h.blk_ne rfl
  obtain ⟨A, c0, e0⟩ := own_form h.1.2.1
  have en : s.l.length = n := by injection e0 with _ e _; exact e.symm
  have hrow := h.1.2.1
  rw [en] at hrow
  obtain ⟨r1, g1⟩ := hrow.stored (k * 4 + 3) (.int .i64 x)
  rw [flat_set oneC_len s.l k o { o with grp := x } 3 (.int .i64 x) ho (by decide) rfl] at r1
  have q1 : (w.setCell ⟨b, k * 4 + 3, none⟩ (.int .i64 x)).ownsRow B 50 4 (.slice (some ⟨b, 0, none⟩) n c) (s.l.set k { o with grp := x }).length ((s.l.set k { o with grp := x }).flatMap oneC) := by
    rw [List.length_set, en]
    exact r1
  refine And.intro (And.intro ?_ (And.intro q1 (And.intro ?_ ?_))) (And.intro h.2.1 ?_)
  · exact Words.Blk.far (p := ⟨b, k * 4 + 3, none⟩) h.1.1 (Ne.symm e1) _
  · exact h.1.2.2.1.block (Below.heap_setCell _ ⟨b, k * 4 + 3, none⟩ _ _ (Ne.symm e2))
  · exact h.1.2.2.2.block (Below.heap_setCell _ ⟨b, k * 4 + 3, none⟩ _ _ (Ne.symm e3))
  · intro o' ho'
    rcases List.mem_or_eq_of_mem_set ho' with h1 | rfl
    · exact h.2.2 o' h1
    · exact hx
def NumsAt (w : World) (l : List Int) (v : Value) : Prop := LawFrame.RowsAt w 1 (fun x => [.int .i64 x]) l v
/-- new latches -/
def NewAt (gs : List Int) (w : World) (e : Ending) (w' : World) : Prop := ∃ (g : Nat) (v' : Value) (m1 m2 : Nat), e = .returned (.pointer (some ⟨g, 0, none⟩)) ∧ LAt w.heap.size g v' m1 m2 0 (fresh gs) w' ∧ Below w.heap.size w w'
set_option maxHeartbeats 1000000 in
set_option maxRecDepth 100000 in
theorem New_any (gs : List Int) (v : Value) (w : World) (h : NumsAt w gs v) (hf : ∀ x ∈ gs, Fit64 x) (hl : gs.length ≤ 2000000) :
    Calls Try.prog 7 #[v] w (NewAt gs w) := by
  obtain ⟨i0, hi0, hz0, hz1, hz2⟩ := info_parts one_info
  have hmm := @run_makeMap Try.prog
  have hv := h
  obtain ⟨A, c, rfl, hc, -⟩ := hv
  have H := Lib.hid h
  have HF := Lib.hid hf
  clear h hf
  go_enter Try.func7, Try.ntmps7
  go_wp2_with (at_make; refine wpList_make_full _ rfl (.tmp 7) (.tmp 7) 45 rfl w.heap.size 50 i0 _ 4 Try.underlying45 hi0 hz0 hz1 .i64 .i64 _ _ gs.length rfl rfl rfl rfl (by rw [hz2]; omega) (by simp only [maxLen]; omega) (Nat.le_refl _) ?_; intro w1 ho1 hg1; have HO1 := Lib.hid ho1; have HG1 := Lib.hid hg1; clear ho1 hg1)
  have hs1 : w.heap.size < w1.heap.size := (HO1.out.lt w.heap.size rfl).2
  have hb1 : Below w.heap.size w w1 := (Below.refl _ _).grown HG1.out (Nat.le_refl _) (fun k hk => by cases hk)
  have hI : LAt w.heap.size (w1.heap.size + 1 + 1) (.slice (some ⟨w.heap.size, 0, none⟩) gs.length gs.length) w1.heap.size (w1.heap.size + 1) 0 ⟨noneSet gs.length, fun _ => none, fun _ => none⟩ (((w1.alloc (.map #[] 0)).alloc (.map #[] 0)).alloc (.cells #[.slice (some ⟨w.heap.size, 0, none⟩) gs.length gs.length, .map (some w1.heap.size), .map (some (w1.heap.size + 1))] 48)) := by
    have hn : (noneSet gs.length).length = gs.length := by simp [noneSet]
    have hrow : w1.ownsRow w.heap.size 50 4 (.slice (some ⟨w.heap.size, 0, none⟩) gs.length gs.length) (noneSet gs.length).length ((noneSet gs.length).flatMap oneC) := by
      have := HO1.out
      rw [← made_flat (z := (Value.agg #[.bool false, .int .i64 0, .bool false, .int .i64 0]).cells) (m := 4) (by decide) oneC_len (noneSet gs.length) (fun x hx => by rw [List.eq_of_mem_replicate hx]; rfl), hn]
      exact this
    refine ⟨⟨?_, ((hrow.alloc _).alloc _).alloc _, ?_, ?_⟩, ⟨by omega, by omega, by omega, by omega⟩, fun o ho => ?_⟩
    · have := Words.Blk.new ((w1.alloc (.map #[] 0)).alloc (.map #[] 0)) 48 #[.slice (some ⟨w.heap.size, 0, none⟩) gs.length gs.length, .map (some w1.heap.size), .map (some (w1.heap.size + 1))]
      simpa using this
    · exact (MapAt.made w1).block ((Below.heap_alloc _ _ _ (by simp; omega)).trans (Below.heap_alloc _ _ _ (by simp)))
    · have := MapAt.made (w1.alloc (.map #[] 0))
      rw [World.size_alloc] at this
      exact this.block (Below.heap_alloc _ _ _ (by simp))
    · rw [List.eq_of_mem_replicate ho]; exact ⟨by decide, by decide⟩
  have HB1 := Lib.hid (((hb1.alloc (by omega) (.map #[] 0)).alloc (by simp; omega) (.map #[] 0)).alloc (by simp; omega) (.cells #[.slice (some ⟨w.heap.size, 0, none⟩) gs.length gs.length, .map (some w1.heap.size), .map (some (w1.heap.size + 1))] 48))
  have HI := Lib.hid hI
  clear hI hb1 HO1 HG1
  generalize w1.heap.size = m at *
  have HM : Hid (w.heap.size < m) := Lib.hid hs1
  clear hs1
  generalize ((w1.alloc (.map #[] 0)).alloc (.map #[] 0)).alloc (.cells #[.slice (some ⟨w.heap.size, 0, none⟩) gs.length gs.length, .map (some m), .map (some (m + 1))] 48) = w2 at *
  go_loopw [15] (fun i wr => ∃ (k : Nat) (L : List One), k ≤ gs.length ∧ i = .int .i64 k ∧ Laid gs k L ∧ LAt w.heap.size (m + 1 + 1) (.slice (some ⟨w.heap.size, 0, none⟩) gs.length gs.length) m (m + 1) 0 ⟨L, fun _ => none, fun _ => none⟩ wr ∧ Below w.heap.size w wr) (fun i _ => gs.length - (intOf i).toNat)
  case atStart => exact ⟨0, _, Nat.zero_le _, rfl, laid_start gs, HI.out, HB1.out⟩
  case round =>
    clear HI HB1
    obtain ⟨k, L, hk, rfl, hL, hI, hB⟩ := hrel
    have HL := Lib.hid hL
    have HI := Lib.hid hI
    have HB := Lib.hid hB
    clear hL hI hB
    by_cases hlt : k < gs.length
    · obtain ⟨x, hx⟩ : ∃ x, gs[k]? = some x := ⟨_, List.getElem?_eq_getElem hlt⟩
      obtain ⟨bb, off', c', hv, hbl, hcell⟩ := H.out.at_ hx
      have e0 := hcell 0 _ rfl
      simp only [Nat.mul_one, Nat.add_zero] at e0
      injection hv with hA e3 e4
      subst hA
      have h0 := (HB.out.cell (p := ⟨bb, off' + k, none⟩) hbl).trans e0
      have hLk : L[k]? = some ⟨false, 0, 0⟩ := by have := HL.out.2 k hlt; rwa [if_neg (by omega)] at this
      have HLS := Lib.hid (laid_step HL.out hx)
      have HIS := Lib.hid (HI.out.regroup hLk x (HF.out x (List.mem_of_getElem? hx)))
      have HBS := Lib.hid (HB.out.setCell (p := ⟨w.heap.size, k * 4 + 3, none⟩) (Nat.le_refl _) (.int .i64 x))
      obtain ⟨c0, -, -, -, -, x3⟩ := HI.out.facts hLk
      have f3 := HI.out.1.2.1
      rw [HL.out.1] at f3
      have f3 := f3.frozenAt (k * 4 + 3)
      have hnb := (HI.out.blk_ne rfl).1
      clear e3 e4 hcell hx e0 hLk
      go_wp2_with fail
      go_roundw
      case rel => exact ⟨k + 1, _, by omega, by go_num, HLS.out, HIS.out, HBS.out⟩
      case measure => simp [intOf]; omega
    · obtain rfl : k = gs.length := by omega
      go_wp2_with fail
      go_ret
      have hI := HI.out
      rw [laid_end HL.out] at hI
      exact ⟨m + 1 + 1, .slice (some ⟨w.heap.size, 0, none⟩) gs.length gs.length, m, m + 1, rfl, hI, HB.out⟩
end Go.Proofs.Ytcaobjmngdlklaa
