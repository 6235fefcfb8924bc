/-
  THE WALK of the closure of matrix.Print: one line more.
-/
import Derived.Test.YtckbdnkonccmiaaDoorMatRdr
namespace Go.Proofs.YtckbdnkonccmiaaDoor
open Go.RowKit
/-- the lines that are gathered lie behind the captured variable pb -/
structure PrAt (W0 : World) (pb : Nat) (xs : List Ln) (w : World) : Prop where
  at_ : ∃ v, Words.Blk w pb 36 #[v] ∧ w.ownsRow W0.heap.size 50 2 v xs.length (xs.flatMap Ln.cells)
  rows : ∀ x ∈ xs, ∃ B', w.ownsRow B' 9 1 x.v x.ws.length (x.ws.flatMap sC)
  low : W0.heap.size ≤ pb
  old : Below W0.heap.size W0 w
theorem PrAt.below {W0 w w' : World} {pb : Nat} {xs : List Ln} (h : PrAt W0 pb xs w) (hb : Below w.heap.size w w') : PrAt W0 pb xs w' := by
  obtain ⟨v, h1, h2⟩ := h.at_
  exact ⟨⟨v, h1.below hb h1.lt, own_below h2 hb⟩, fun x hx => by obtain ⟨B', hB⟩ := h.rows x hx; exact ⟨B', own_below hB hb⟩, h.low, h.old.trans (hb.mono h.old.size)⟩
/-- what has nothing to do with the lines is kept -/
structure Kept (w w' : World) : Prop where
  blk : ∀ {g : Nat} {t : TypeId} {cs : Array Value}, t ≠ 36 → t ≠ 50 → Words.Blk w g t cs → Words.Blk w' g t cs
  own : ∀ {base size n : Nat} {e : TypeId} {v : Value} {xs : List Value}, e ≠ 36 → e ≠ 50 → w.ownsRow base e size v n xs → w'.ownsRow base e size v n xs
  size : w.heap.size ≤ w'.heap.size
theorem Kept.trans {a b c : World} (h : Kept a b) (k : Kept b c) : Kept a c := ⟨fun h1 h2 hb => k.blk h1 h2 (h.blk h1 h2 hb), fun h1 h2 hb => k.own h1 h2 (h.own h1 h2 hb), Nat.le_trans h.size k.size⟩
theorem Kept.of_below {a b : World} (h : Below a.heap.size a b) : Kept a b := ⟨fun _ _ hb => hb.below h hb.lt, fun _ _ ho => own_below ho h, h.size⟩
theorem reads_ln (w : World) (g : Nat) (hg : w.heap.size = g) (x : Ln) (t : TypeId) : Words.Reads (w.alloc (.cells #[.int .i64 x.no, x.v] t)) (g + 1) 2 (some ⟨g, 0, none⟩) 1 x.cells := by
  subst hg
  exact LawFrame.reads_block (xs := x.cells) (t := t) (heap_alloc_new w _) (by omega) rfl
theorem one_ln (x : Ln) (A : Option Addr) (n c : Nat) (hv : x.v = .slice A n c) : ∀ u ∈ x.cells, u.oneCell' = true := by
  intro u hu
  simp only [Ln.cells, List.mem_cons, List.not_mem_nil, or_false] at hu
  rcases hu with rfl | rfl <;> first | rfl | (rw [hv]; rfl)
/-- the append, then the store -/
theorem PrAt.app {W0 w w2 : World} {pb : Nat} {xs : List Ln} {v v' : Value} {x : Ln} {ob : Obj} (h : PrAt W0 pb xs w) (hv : Words.Blk w pb 36 #[v]) (ho0 : w.ownsRow W0.heap.size 50 2 v xs.length (xs.flatMap Ln.cells)) (hx : ∃ B', w.ownsRow B' 9 1 x.v x.ws.length (x.ws.flatMap sC))
    (ho : w2.ownsRow W0.heap.size 50 2 v' (xs.length + 1) (xs.flatMap Ln.cells ++ x.cells)) (hg : (w.alloc ob).grownBy w2 v.ownBlock) : Words.Blk w2 pb 36 #[v] ∧ PrAt W0 pb (xs ++ [x]) (w2.setCell ⟨pb, 0, none⟩ v') ∧ Kept w (w2.setCell ⟨pb, 0, none⟩ v') := by
  have hb : Words.Blk w2 pb 36 #[v] := (hv.alloc ob).grown hg (fun e => Words.own_blk_ne ho0 hv (by decide) e.symm)
  have hs := grown_set w2 pb 0 v'
  have k : ∀ {base size n : Nat} {e : TypeId} {u : Value} {ys : List Value}, e ≠ 36 → e ≠ 50 → w.ownsRow base e size u n ys → (w2.setCell ⟨pb, 0, none⟩ v').ownsRow base e size u n ys := fun hne hne2 hu => by
    have h1 := (hu.alloc ob).kept hg (own_ne hu ho0 hne2)
    exact h1.kept hs (.inr (Words.own_blk_ne h1 hb hne))
  have hsz : w.heap.size ≤ w2.heap.size := Nat.le_trans (by simp) hg.size
  refine ⟨hb, ⟨⟨v', hb.set_ 0 v', ?_⟩, ?_, h.low, ?_⟩, ⟨fun {g t cs} h1 h2 hk => ?_, k, ?_⟩⟩
  · have h1 := ho.kept hs (.inr (Words.own_blk_ne ho hb (by decide)))
    simpa using h1
  · intro y hy
    rcases List.mem_append.1 hy with hy | hy
    · obtain ⟨B', hB⟩ := h.rows y hy; exact ⟨B', k (by decide) (by decide) hB⟩
    · obtain rfl := List.mem_singleton.1 hy
      obtain ⟨B', hB⟩ := hx; exact ⟨B', k (by decide) (by decide) hB⟩
  · exact ((h.old.alloc h.old.size ob).grown hg (by have := h.old.size; simp; omega) (fun k hk => (ho0.lt k hk).1)).setCell (p := ⟨pb, 0, none⟩) h.low v'
  · have h3 := (hk.alloc ob).grown hg (fun e => Words.own_blk_ne ho0 hk h2.symm e.symm)
    exact h3.far (p := ⟨pb, 0, none⟩) (Words.Blk.ne_ h3 hb h1) v'
  · simpa using hsz
set_option maxHeartbeats 2000000 in
set_option maxRecDepth 100000 in
theorem add_any (W0 w : World) (pb : Nat) (xs : List Ln) (h : PrAt W0 pb xs w) (ws : List ByteArray) (A : Option Addr) (c : Nat) (hw : ∃ B', w.ownsRow B' 9 1 (.slice A ws.length c) ws.length (ws.flatMap sC)) (hl : xs.length ≤ 100000) :
    Calls Tryd.prog 18 #[.slice A ws.length c, .pointer (some ⟨pb, 0, none⟩)] w fun e w' => e = .returned (.tuple #[]) ∧ PrAt W0 pb (xs ++ [⟨(xs.length : Int) + 1, .slice A ws.length c, ws⟩]) w' ∧ Kept w w' := by
  obtain ⟨v, hv, ho⟩ := h.at_
  obtain ⟨Av, cv, rfl⟩ := own_form ho
  obtain ⟨n, hn⟩ : ∃ n, n = xs.length := ⟨_, rfl⟩
  have k0 : w.cell? ⟨pb, 0, none⟩ = some (.slice Av n cv) := by rw [hn]; exact hv.cell 0
  have H := Lib.hid h
  have HV := Lib.hid hv
  have HOW := Lib.hid ho
  have HX := Lib.hid hw
  have HO := Lib.hid (one_ln ⟨(xs.length : Int) + 1, .slice A ws.length c, ws⟩ A ws.length c rfl)
  have hwl : W0.heap.size ≤ w.heap.size := h.old.size
  obtain ⟨i0, hi0, hz0, hz1, hz2⟩ := line_parts
  obtain ⟨m, hm⟩ : ∃ m, m = ws.length := ⟨_, rfl⟩
  rw [← hm] at HX HO ⊢
  rw [← hn] at HV HOW HO hl ⊢
  have HN := Lib.hid hn
  have HM := Lib.hid hm
  clear h hv ho hw hn hm
  go_enter Tryd.func18, Tryd.ntmps18
  go_wp2_with (at_builtin; refine Words.wpList_append_any _ rfl (.tmp 3) (.tmp 9) _ rfl W0.heap.size 50 i0 _ 2 32 Tryd.underlying36 hi0 hz0 hz1 hz2 rfl (by omega) (.slice Av n cv) n (xs.flatMap Ln.cells) rfl (HOW.out.alloc _) (w.heap.size + 1) (some ⟨w.heap.size, 0, none⟩) 1 1 (Ln.cells ⟨(n : Int) + 1, .slice A m c, ws⟩) rfl (reads_ln _ _ rfl ⟨(n : Int) + 1, .slice A m c, ws⟩ _) HO.out (by simp only [maxLen]; omega) (by omega) (by simp; omega) ?_; intro v' w2 ho2 hg _; have HAP := Lib.hid (PrAt.app (x := ⟨(n : Int) + 1, .slice A m c, ws⟩) H.out (by rw [HN.out] at HV; exact HV.out) (by rw [HN.out] at HOW; exact HOW.out) (by rw [HM.out] at HX; rw [HM.out]; exact HX.out) (by rw [← HN.out]; exact ho2) (by rw [HN.out] at hg; exact hg)); obtain ⟨Av2, cv2, rfl⟩ := own_form ho2; have f0 : w2.frozen? ⟨pb, 0, none⟩ = false := HAP.out.1.frozen 0; have c0 : w2.cell? ⟨pb, 0, none⟩ = some (.slice Av xs.length cv) := HAP.out.1.cell 0; clear ho2 hg)
  go_end0
  exact ⟨rfl, HAP.out.2.1, HAP.out.2.2⟩
end Go.Proofs.YtckbdnkonccmiaaDoor
