/-
  MbapPieces: bytes that come in pieces, of which what is left is kept, are cut to the same as at once; so is an error. For every row of bytes and of pieces' sizes.
-/
import Derived.Test.YthcgomfejibkhaaMbapPiecesPlain
import Derived.Test.YthcgomfejibkhaaMbapBackPlain
import Derived.Deep.DeepCutAuto
namespace Go.Proofs.Ythcgomfejibkhaa
open Go.RowKit Go.ChangeShapes Go.WideShapes Mbap

theorem pieces_big (A A2 : Option Addr) (n c m c2 : Nat) (w : World) (h : 9000 < n ∨ 300 < m) :
    Calls Try.prog 6 #[.slice A n c, .slice A2 m c2] w fun e w' => e = .returned (.bool true) ∧ Below w.heap.size w w' := by
  by_cases h1 : 9000 < n
  · go_enter Try.func6, Try.ntmps6
    go_wp2_with fail
    refine (head_any _).mono ?_
    rintro e w1 ⟨rfl, hb1⟩
    go_wp2_with fail
    go_ret
    exact ⟨rfl, hb1⟩
  · have h2 : 300 < m := by omega
    go_enter Try.func6, Try.ntmps6
    go_wp2_with fail
    refine (head_any _).mono ?_
    rintro e w1 ⟨rfl, hb1⟩
    go_wp2_with fail
    go_ret
    exact ⟨rfl, hb1⟩
/-- the frames that were got: their row, and their bytes, ahead of block Bl -/
def GotAt (W2 W : World) (Bl : Nat) (ps : List (Adu × Value)) (v : Value) : Prop := W.ownsRow W2.heap.size 26 3 v ps.length (ps.flatMap aduCells) ∧
  ∀ p ∈ ps, BytesAt W p.1.pdu p.2 ∧ p.1.id < 65536 ∧ p.1.pdu.length ≤ 253 ∧ Kind 0 5 W p.2 ∧ ∀ g, p.2.ownBlock = some g → g < Bl
/-- what stands between two pieces -/
def PInv (b : List UInt8) (W2 W : World) (at' : Nat) (left : List UInt8) (bad : Nat) (v6 v7 : Value) : Prop :=
  ∃ (ps : List (Adu × Value)) (Bl : Nat), W2.heap.size ≤ Bl ∧ Bl ≤ W.heap.size ∧ GotAt W2 W Bl ps v7 ∧ W.ownsRow Bl 5 1 v6 left.length (left.map bV) ∧ Below W2.heap.size W2 W ∧ Piece (b.take at') (ps.map (·.1)) left bad
theorem PInv.start (b : List UInt8) (W : World) : PInv b W W 0 [] 0 (.slice none 0 0) (.slice none 0 0) :=
  ⟨[], W.heap.size, Nat.le_refl _, Nat.le_refl _, ⟨World.ownsRow_nil _ _ _ _, by simp⟩, World.ownsRow_nil _ _ _ _, Below.refl _ _, by simpa using Piece.start⟩
/-- behind the first append: more is left -/
theorem PInv.more {left ys : List UInt8} {W2 W W' : World} {v6 v7 v6' : Value} {ps : List (Adu × Value)} {Bl : Nat} (h1 : W2.heap.size ≤ Bl) (h2 : Bl ≤ W.heap.size) (h3 : GotAt W2 W Bl ps v7) (h4 : W.ownsRow Bl 5 1 v6 left.length (left.map bV)) (h5 : Below W2.heap.size W2 W)
    (ho : W'.ownsRow Bl 5 1 v6' (left.length + ys.length) (left.map bV ++ ys.map bV)) (hg : W.grownBy W' v6.ownBlock) :
    GotAt W2 W' Bl ps v7 ∧ W'.ownsRow Bl 5 1 v6' (left ++ ys).length ((left ++ ys).map bV) ∧ Below W2.heap.size W2 W' ∧ Bl ≤ W'.heap.size := by
  refine ⟨⟨h3.1.kept hg (own_ne h3.1 h4 (by decide)), fun p hp => ?_⟩, by rw [List.length_append, List.map_append]; exact ho, h5.grown hg h5.size (fun k hk => by have := (h4.lt k hk).1; omega), Nat.le_trans h2 hg.size⟩
  obtain ⟨g1, g2, g3, g4, g5⟩ := h3.2 p hp
  have hs : ∀ (g : Nat), p.2.ownBlock = some g → W'.heap[g]? = W.heap[g]? := fun g e => hg.block g (by have := g5 g e; omega) (fun ee => by have := (h4.lt g ee.symm).1; have := g5 g e; omega)
  refine ⟨?_, g2, g3, fun g e => ?_, g5⟩
  · obtain ⟨A, c, e, hc, hx⟩ := g1
    refine ⟨A, c, e, hc, fun hne => ?_⟩
    obtain ⟨bb, off, rfl, hb, hx⟩ := hx hne
    refine ⟨bb, off, rfl, Nat.lt_of_lt_of_le hb hg.size, fun i x hi d u hu => ?_⟩
    exact (World.cell?_of_block (w := W) (a := ⟨bb, _, none⟩) (hs bb (by rw [e]; rfl))).trans (hx i x hi d u hu)
  · obtain ⟨k1, cs, k2⟩ := g4 g e
    exact ⟨k1, cs, (hs g e).trans k2⟩
theorem PInv.more' {left ys : List UInt8} {W2 W W' : World} {v6 v7 v6' : Value} {ps : List (Adu × Value)} {Bl m : Nat} (h1 : W2.heap.size ≤ Bl) (h2 : Bl ≤ W.heap.size) (h3 : GotAt W2 W Bl ps v7) (h4 : W.ownsRow Bl 5 1 v6 left.length (left.map bV)) (h5 : Below W2.heap.size W2 W)
    (hm : ys.length = m) (ho : W'.ownsRow Bl 5 1 v6' (left.length + m) (left.map bV ++ ys.map bV)) (hg : W.grownBy W' v6.ownBlock) :
    GotAt W2 W' Bl ps v7 ∧ W'.ownsRow Bl 5 1 v6' (left ++ ys).length ((left ++ ys).map bV) ∧ Below W2.heap.size W2 W' ∧ Bl ≤ W'.heap.size := by
  subst hm
  exact PInv.more h1 h2 h3 h4 h5 ho hg
/-- behind a call that turns nothing that lay there -/
theorem GotAt.below {W2 W W' : World} {Bl : Nat} {ps : List (Adu × Value)} {v : Value} (h : GotAt W2 W Bl ps v) (hb : Below W.heap.size W W') : GotAt W2 W' Bl ps v :=
  ⟨h.1.kept (row := none) (grown_of_below hb) (by rcases hv : v.ownBlock with _ | g <;> simp), fun p hp => ⟨LawFrame.RowsAt.below (h.2 p hp).1 hb, (h.2 p hp).2.1, (h.2 p hp).2.2.1, (h.2 p hp).2.2.2.1.below hb, (h.2 p hp).2.2.2.2⟩⟩
/-- behind the second append: more is got; a new bound Bn for the frames' bytes -/
theorem GotAt.more {W2 W W' : World} {Bl Bn : Nat} {ps qs : List (Adu × Value)} {v v' : Value} (h : GotAt W2 W Bl ps v) (hq : ∀ p ∈ qs, BytesAt W p.1.pdu p.2 ∧ p.1.id < 65536 ∧ p.1.pdu.length ≤ 253 ∧ Kind 0 5 W p.2) (hn : W.heap.size ≤ Bn)
    (ho : W'.ownsRow W2.heap.size 26 3 v' (ps.length + qs.length) (ps.flatMap aduCells ++ qs.flatMap aduCells)) (hg : W.grownBy W' v.ownBlock) : GotAt W2 W' Bn (ps ++ qs) v' := by
  have hs : ∀ (g : Nat) (cs : Array Value), W.heap[g]? = some (Obj.cells cs 5 (0, 0)) → W'.heap[g]? = W.heap[g]? := by
    intro g cs hh
    refine hg.block g (Array.getElem?_eq_some_iff.1 hh).1 (fun e => ?_)
    rcases h.1.2 with ⟨rfl, _⟩ | ⟨g', cap, cur, rfl, _, hgb, _⟩
    · simp [Value.ownBlock] at e
    · simp only [Value.ownBlock, Option.some.injEq] at e
      subst e
      rw [hgb] at hh
      cases hh
  refine ⟨by rw [List.length_append, List.flatMap_append]; exact ho, fun p hp => ?_⟩
  have hp' : BytesAt W p.1.pdu p.2 ∧ p.1.id < 65536 ∧ p.1.pdu.length ≤ 253 ∧ Kind 0 5 W p.2 := by
    rcases List.mem_append.1 hp with hp | hp
    · exact ⟨(h.2 p hp).1, (h.2 p hp).2.1, (h.2 p hp).2.2.1, (h.2 p hp).2.2.2.1⟩
    · exact hq p hp
  refine ⟨hp'.1.kept hp'.2.2.2 hg.size hs, hp'.2.1, hp'.2.2.1, hp'.2.2.2.keep hs, fun g e => ?_⟩
  obtain ⟨-, cs, k2⟩ := hp'.2.2.2 g e
  have := (Array.getElem?_eq_some_iff.1 k2).1
  omega
theorem GotAt.frames {W2 W : World} {Bl : Nat} {ps : List (Adu × Value)} {v : Value} (h : GotAt W2 W Bl ps v) : FramesAt W (ps.map (·.1)) v :=
  ⟨ps, rfl, LawFrame.RowsAt.of_own (f := aduCells) (fun _ => rfl) (by omega) h.1, fun p hp => ⟨(h.2 p hp).1, (h.2 p hp).2.1, by have := (h.2 p hp).2.2.1; omega⟩⟩
theorem piece_slice {w : World} {A : Option Addr} {b : List UInt8} {k m c : Nat} (h : BytesAt w b (.slice A b.length c)) (hk : k ≤ b.length) (hm : m ≤ b.length - k) :
    Words.Reads w w.heap.size 1 (if c = k then A else A.map (·.add k)) m (((b.drop k).take m).map bV) := by
  have hcc : b.length ≤ c := by obtain ⟨A', c', e, hc, -⟩ := h; injection e with _ _ e3; omega
  have h1 := (reads_of h).cut (k := k) (cap := c) hk hcc
  rw [Nat.mul_one, ← List.map_drop] at h1
  refine ⟨by simp; omega, fun hn => ?_⟩
  obtain ⟨ad, e, hb, hx⟩ := h1.2 (by omega)
  refine ⟨ad, e, hb, fun j u hu => hx j u ?_⟩
  rw [List.map_take, List.getElem?_take] at hu
  split at hu
  · exact hu
  · cases hu
theorem piece_ne {w : World} {A : Option Addr} {xs : List Value} {k m c B : Nat} (h : Words.Reads w B 1 (if c = k then A else A.map (·.add k)) m xs) (hc : ¬ c = k) : Words.Reads w B 1 (A.map (·.add k)) (k + m - k) xs := by rw [if_neg hc] at h; rwa [Nat.add_sub_cancel_left]
theorem piece_eq {w : World} {A : Option Addr} {xs : List Value} {k m c B : Nat} (h : Words.Reads w B 1 (if c = k then A else A.map (·.add k)) m xs) (hc : c = k) (hm : m = 0) : Words.Reads w B 1 A 0 xs := by rw [if_pos hc, hm] at h; exact h
theorem piece_len (left b : List UInt8) (k m : Nat) (_h : m + k ≤ b.length) (hl : left.length ≤ k) : (left ++ (b.drop k).take m).length ≤ k + m := by simp; omega
theorem piece_more {b left : List UInt8} {k m : Nat} {got : List Adu} (h : Piece (b.take k) got left 0) : Piece (b.take (k + m)) (got ++ (cut (left ++ (b.drop k).take m)).1) ((left ++ (b.drop k).take m).drop (cut (left ++ (b.drop k).take m)).2.1) (cut (left ++ (b.drop k).take m)).2.2 := by
  rw [List.take_add]; exact h.more
theorem own_none (v : Value) : v.ownBlock = none ∨ v.ownBlock ≠ none := by rcases v.ownBlock with _ | g <;> simp
theorem own_cap {W : World} {base size n c : Nat} {e : TypeId} {A : Option Addr} {xs : List Value} (h : W.ownsRow base e size (.slice A n c) n xs) : n ≤ c := by
  rcases h.2 with ⟨h, rfl⟩ | ⟨g, cap, cur, h, _, _, hc, _⟩
  · omega
  · injection h with _ _ h; omega
theorem piece_rows {W : World} {qs : List (Adu × Value)} {fs : List Adu} {A : Option Addr} {c : Nat} (h : LawFrame.RowsAt W 3 aduCells qs (.slice A fs.length c)) (_hq : qs.map (·.1) = fs) : Words.Reads W W.heap.size 3 A fs.length (qs.flatMap aduCells) := by
  obtain ⟨A', c', e, -, hr⟩ := h.reads (f := aduCells) (fun _ => rfl) (by omega)
  injection e with e1 e2 _
  subst e1
  rw [← e2] at hr
  exact hr
theorem adus_one {W : World} {B : Nat} {qs : List (Adu × Value)} (h : ∀ p ∈ qs, BytesAt W p.1.pdu p.2 ∧ p.1.id < 65536 ∧ p.1.pdu.length ≤ 253 ∧ Kind B 5 W p.2) : ∀ u ∈ qs.flatMap aduCells, u.oneCell' = true := by
  intro u hu
  obtain ⟨p, hp, hu⟩ := List.mem_flatMap.1 hu
  obtain ⟨A, c, e, -, -⟩ := (h p hp).1
  simp only [List.mem_cons, List.not_mem_nil, or_false] at hu
  rcases hu with rfl | rfl | rfl
  · rfl
  · rfl
  · rw [e]; rfl
/-- behind the second append -/
theorem piece_got {W2 W W' : World} {Bl B : Nat} {ps qs : List (Adu × Value)} {fs : List Adu} {v7 v7' : Value} {L2 : List UInt8} {A : Option Addr} {c : Nat} (h : GotAt W2 W Bl ps v7) (hl : W.ownsRow Bl 5 1 (.slice A L2.length c) L2.length (L2.map bV)) (hw : Below W2.heap.size W2 W)
    (hq : qs.map (·.1) = fs) (hq3 : ∀ p ∈ qs, BytesAt W p.1.pdu p.2 ∧ p.1.id < 65536 ∧ p.1.pdu.length ≤ 253 ∧ Kind B 5 W p.2) (_hb : Bl ≤ W.heap.size)
    (ho : W'.ownsRow W2.heap.size 26 3 v7' (ps.length + fs.length) (ps.flatMap aduCells ++ qs.flatMap aduCells)) (hg : W.grownBy W' v7.ownBlock) :
    GotAt W2 W' W'.heap.size (ps ++ qs) v7' ∧ W'.ownsRow Bl 5 1 (.slice A L2.length c) L2.length (L2.map bV) ∧ Below W2.heap.size W2 W' ∧ (ps ++ qs).map (·.1) = ps.map (·.1) ++ fs := by
  have hln : fs.length = qs.length := by rw [← hq]; simp
  rw [hln] at ho
  refine ⟨h.more (fun p hp => ⟨(hq3 p hp).1, (hq3 p hp).2.1, (hq3 p hp).2.2.1, (hq3 p hp).2.2.2.mono (Nat.zero_le _)⟩) hg.size ho hg, hl.kept hg (own_ne hl h.1 (by decide)), hw.grown hg hw.size (fun k hk => (h.1.lt k hk).1), by rw [List.map_append, hq]⟩
/-- what is left, as the third append's source -/
theorem piece_left {W2 W : World} {Bl Bn : Nat} {rs : List (Adu × Value)} {gs : List Adu} {v7 : Value} {L2 : List UInt8} {A : Option Addr} {c kk : Nat} {o : Obj} (h : GotAt W2 W Bn rs v7 ∧ W.ownsRow Bl 5 1 (.slice A L2.length c) L2.length (L2.map bV) ∧ Below W2.heap.size W2 W ∧ rs.map (·.1) = gs)
    (hk : kk ≤ L2.length) (hc : ¬ c = kk) : Words.Reads (W.alloc o) W.heap.size 1 (A.map (·.add kk)) (L2.length - kk) ((L2.drop kk).map bV) := by
  have hb := BytesAt.of_own h.2.1
  have h1 := reads_of (cut_bytes (l := L2) hb hk hc |> fun x => (by rw [List.length_drop]; exact x : BytesAt W (L2.drop kk) (.slice (A.map (·.add kk)) (L2.drop kk).length (c - kk))))
  rw [List.length_drop] at h1
  exact h1.alloc (Nat.le_refl _) o
theorem piece_left_eq {W2 W : World} {Bl Bn : Nat} {rs : List (Adu × Value)} {gs : List Adu} {v7 : Value} {L2 : List UInt8} {A : Option Addr} {c : Nat} {o : Obj} (h : GotAt W2 W Bn rs v7 ∧ W.ownsRow Bl 5 1 (.slice A L2.length c) L2.length (L2.map bV) ∧ Below W2.heap.size W2 W ∧ rs.map (·.1) = gs) :
    Words.Reads (W.alloc o) W.heap.size 1 A 0 ((L2.drop c).map bV) := by
  have hc := own_cap h.2.1
  rw [List.drop_eq_nil_of_le hc]
  exact ⟨rfl, fun h => absurd h (by omega)⟩
theorem piece_count {b left : List UInt8} {k bad : Nat} {ps : List (Adu × Value)} (hl : b.length ≤ 9000) (h : Piece (b.take k) (ps.map (·.1)) left bad) : ps.length ≤ 9000 := by
  have h1 := cut_count (b.take k)
  have h2 := (cut_le (b.take k)).1
  rw [h.1] at h1
  simp at h1 h2
  omega
/-- behind the third -/
theorem piece_end {b L2 : List UInt8} {W2 W W' : World} {Bl : Nat} {rs : List (Adu × Value)} {gs : List Adu} {v7 v6 : Value} {A : Option Addr} {c kk k e2 : Nat} {o : Obj} (h : GotAt W2 W W.heap.size rs v7 ∧ W.ownsRow Bl 5 1 (.slice A L2.length c) L2.length (L2.map bV) ∧ Below W2.heap.size W2 W ∧ rs.map (·.1) = gs)
    (hp : Piece (b.take k) gs (L2.drop kk) e2) (_hk : kk ≤ L2.length) (ho : W'.ownsRow W.heap.size 5 1 v6 (0 + (L2.length - kk)) ([] ++ (L2.drop kk).map bV)) (hg : (W.alloc o).grownBy W' (some W.heap.size)) :
    PInv b W2 W' k (L2.drop kk) e2 v6 v7 := by
  have hb : Below W.heap.size W W' := ((Below.refl _ _).alloc (Nat.le_refl _) o).grown hg (by simp) (fun k hk => by cases hk; exact Nat.le_refl _)
  obtain ⟨h1, -, h3, h4⟩ := h
  refine ⟨rs, W.heap.size, h3.size, hb.size, h1.below hb, ?_, h3.trans (hb.mono h3.size), by rw [h4]; exact hp⟩
  rw [List.length_drop]
  simpa using ho
theorem piece_end_eq {b L2 : List UInt8} {W2 W W' : World} {Bl : Nat} {rs : List (Adu × Value)} {gs : List Adu} {v7 v6 : Value} {A : Option Addr} {c k e2 : Nat} {o : Obj} (h : GotAt W2 W W.heap.size rs v7 ∧ W.ownsRow Bl 5 1 (.slice A L2.length c) L2.length (L2.map bV) ∧ Below W2.heap.size W2 W ∧ rs.map (·.1) = gs)
    (hp : Piece (b.take k) gs (L2.drop c) e2) (ho : W'.ownsRow W.heap.size 5 1 v6 (0 + 0) ([] ++ (L2.drop c).map bV)) (hg : (W.alloc o).grownBy W' (some W.heap.size)) :
    PInv b W2 W' k (L2.drop c) e2 v6 v7 := by
  have hb : Below W.heap.size W W' := ((Below.refl _ _).alloc (Nat.le_refl _) o).grown hg (by simp) (fun k hk => by cases hk; exact Nat.le_refl _)
  obtain ⟨h1, h2, h3, h4⟩ := h
  have hc := own_cap h2
  refine ⟨rs, W.heap.size, h3.size, hb.size, h1.below hb, ?_, h3.trans (hb.mono h3.size), by rw [h4]; exact hp⟩
  rw [List.length_drop, show L2.length - c = 0 by omega]
  simpa using ho
set_option maxRecDepth 100000 in
set_option maxHeartbeats 4000000 in
theorem pieces_walk (b cuts : List UInt8) (v v2 : Value) (w : World) (hl : b.length ≤ 9000) (hl2 : cuts.length ≤ 300) (hb : BytesAt w b v) (hc2 : BytesAt w cuts v2) :
    Calls Try.prog 6 #[v, v2] w fun e w' => e = .returned (.bool true) ∧ Below w.heap.size w w' := by
  obtain ⟨i0, hi0, hz0, hz1, hz2⟩ := info_parts u8_info
  obtain ⟨i6, hi6, hz60, hz61, hz62⟩ := info_parts adu_info
  have hd0 : decide ((9000 : Int) < (b.length : Int)) = false := decide_eq_false (by omega)
  have hd1 : decide ((300 : Int) < (cuts.length : Int)) = false := decide_eq_false (by omega)
  obtain ⟨A, c, rfl, hc, -⟩ := hb.reads
  obtain ⟨A2, c2, rfl, hcc2, -⟩ := hc2.reads
  have HB := Lib.hid hb
  have HC := Lib.hid hc2
  clear hb hc2
  go_enter Try.func6, Try.ntmps6
  go_wp2_with fail
  refine (head_any _).mono ?_
  rintro e w1 ⟨rfl, hb1⟩
  have HX1 := Lib.hid hb1
  clear hb1
  go_wp2_with fail
  go_loopw [6, 7, 8, 9, 10] (fun v6 v7 a bad i wr => ∃ (k at' bd : Nat) (left : List UInt8), k ≤ cuts.length + 1 ∧ at' ≤ b.length ∧ (k = cuts.length + 1 → at' = b.length) ∧ left.length ≤ at' ∧ (bd = 0 ∨ bd = 31) ∧ a = .int .i64 at' ∧ bad = .int .i64 bd ∧ i = .int .i64 k ∧ Hid (PInv b w1 wr at' left bd v6 v7)) (fun _ _ _ _ i _ => cuts.length + 1 - (intOf i).toNat)
  case atStart => exact ⟨0, 0, 0, [], by omega, by omega, by omega, by simp, .inl rfl, rfl, rfl, rfl, PInv.start b w1⟩
  case round =>
    obtain ⟨k, at', bd, left, hk, hat, hend, hll, hbd, rfl, rfl, rfl, HI⟩ := hrel
    obtain ⟨ps, Bl, h1, h2, h3, h4, h5, h6⟩ := HI.out
    have HW := Lib.hid (HX1.out.trans (h5.mono HX1.out.size))
    by_cases hgo : k ≤ cuts.length ∧ bd = 0
    · obtain ⟨hk', rfl⟩ := hgo
      have hleq : ((left.length : Int) ≤ 9000) := by omega
      have hkk : ((k : Int) ≤ (cuts.length : Int)) := by omega
      go_upto_if 45 with fail
      have HG := Lib.hid h3
      have HL := Lib.hid h4
      have HLW := Lib.hid h5
      have HP := Lib.hid h6
      clear h3 h4 h5 h6 hbd HI
      go_cut [11] (fun n wx => ∃ m : Nat, n = .int .i64 m ∧ m ≤ b.length - at' ∧ (k < cuts.length ∨ m = b.length - at') ∧ wr = wx)
      case first =>
        by_cases hk3 : k < cuts.length
        · obtain ⟨gs, os, cs, hvs, -, hxs⟩ := BytesAt.byte (LawFrame.RowsAt.below HC.out HW.out) (i := 0) (by omega)
          injection hvs with hAs _ hcs
          subst hAs
          subst hcs
          have x0 := hxs k hk3
          clear hxs
          have hsb := at_lt cuts k
          generalize at_ cuts k = s at *
          have hk4 : (k : Int) < (cuts.length : Int) := by omega
          by_cases hs : ((b.length : Int) - (at' : Int)) < (s : Int)
          · go_wp2_with fail
            go_meet
            exact ⟨b.length - at', by go_num, by omega, .inl hk3, rfl⟩
          · have hs' : (s : Int) ≤ ((b.length : Int) - (at' : Int)) := by omega
            go_wp2_with fail
            all_goals
              go_meet
              first | exact ⟨s, rfl, by omega, .inl hk3, rfl⟩ | exact ⟨s, by go_num, by omega, .inl hk3, rfl⟩ | exact ⟨b.length - at', by go_num, by omega, .inl hk3, rfl⟩
        · go_wp2_with fail
          go_meet
          exact ⟨b.length - at', by go_num, by omega, .inr rfl, rfl⟩
      case rest =>
        obtain ⟨m, rfl, hm, hmk, rfl⟩ := hcut
        have hall : m + at' ≤ b.length := by omega
        have HBY := Lib.hid (LawFrame.RowsAt.below HB.out HW.out)
        have HYS := Lib.hid (one_bytes ((b.drop at').take m))
        have HYL := Lib.hid (show ((b.drop at').take m).length = m by simp; omega)
        have HSL := Lib.hid (piece_slice HBY.out hat (show m ≤ b.length - at' from hm))
        have hlz : left.length + m ≤ 20000 := by omega
        have HPC := Lib.hid (piece_count hl HP.out)
        have hi0' : ((at' : Int) + (m : Int)) ≤ (c : Int) := by omega
        have hi1 : (0 : Int) ≤ (at' : Int) := by omega
        have HE := Lib.hid (show at' + m - at' = m by omega)
        by_cases hca : c = at'
        · subst hca
          have HM0 := Lib.hid (show m = 0 by omega)
          go_wp2_with (at_builtin; refine Words.wpList_append_any _ rfl (.tmp 53) (.tmp 59) _ rfl Bl 5 i0 _ 1 1 Try.underlying22 hi0 hz0 hz1 hz2 rfl (by omega) _ left.length (left.map bV) rfl HL.out wr.heap.size A 0 0 (((b.drop c).take m).map bV) rfl (piece_eq HSL.out rfl HM0.out) HYS.out (by simp only [maxLen]; omega) (by omega) h2 ?_; intro v6' w2 ho2 hg2 _; have HM := Lib.hid (PInv.more' h1 h2 HG.out HL.out HLW.out (HYL.out.trans HM0.out) ho2 hg2); clear ho2 hg2)
          have HL2 := Lib.hid (piece_len left b c m hall hll)
          have HPM := Lib.hid (piece_more (m := m) HP.out)
          clear HP HSL HYS HYL HE HBY
          obtain ⟨A6, c6, h6⟩ := own_form HM.out.2.1
          subst h6
          have HB2 := Lib.hid (BytesAt.of_own HM.out.2.1)
          generalize left ++ (b.drop c).take m = L2 at *
          have hl2' : L2.length ≤ 9000 := by have := HL2.out; omega
          refine (Cut_own L2 _ w2 HB2.out (by omega)).mono ?_
          rintro e w3 ⟨⟨A7, c7, qs, rfl, hq1, hq2, hq3, -⟩, hb3⟩
          have HQ1 := Lib.hid hq1
          have HQ2 := Lib.hid hq2
          have HQ3 := Lib.hid hq3
          have HG3 := Lib.hid (HM.out.1.below hb3)
          have HL3 := Lib.hid (HM.out.2.1.kept (row := none) (grown_of_below hb3) (own_none _))
          have HW3 := Lib.hid (HM.out.2.2.1.trans (hb3.mono HM.out.2.2.1.size))
          have hbz : Bl ≤ w3.heap.size := Nat.le_trans HM.out.2.2.2 hb3.size
          have hbz1 : w1.heap.size ≤ w3.heap.size := Nat.le_trans h1 hbz
          have HCE := Lib.hid (first_none (cut_le L2).2).2
          have hkn := (cut_le L2).1
          have hql := cut_count L2
          have hcc6 : L2.length ≤ c6 := (own_cap HM.out.2.1)
          clear hq1 hq2 hq3 hb3 HM HG HL HLW HB2
          generalize (cut L2).1 = fs at *
          generalize (cut L2).2.1 = kk at *
          generalize (cut L2).2.2 = e2 at *
          have hpl : ps.length ≤ 9000 := HPC.out
          have hd3 : decide ((kk : Int) < 0) = false := decide_eq_false (by omega)
          have hd4 : decide (L2.length < kk) = false := decide_eq_false (by omega)
          have hd5 : decide ((L2.length : Int) < (kk : Int)) = false := decide_eq_false (by omega)
          by_cases hck : c6 = kk
          · subst hck
            go_wp2_with (first | (at_builtin; refine Words.wpList_append_any _ rfl (.tmp 78) (.tmp 79) _ rfl w1.heap.size 26 i6 _ 3 32 Try.underlying32 hi6 hz60 hz61 hz62 rfl (by omega) _ ps.length (ps.flatMap aduCells) rfl HG3.out.1 w3.heap.size A7 fs.length c7 (qs.flatMap aduCells) rfl (piece_rows HQ2.out HQ1.out) (adus_one HQ3.out) (by simp only [maxLen]; omega) (by omega) hbz1 ?_; intro v7' w4 ho4 hg4 _; have HN4 := Lib.hid (piece_got HG3.out HL3.out HW3.out HQ1.out HQ3.out hbz ho4 hg4); clear ho4 hg4) | (at_builtin; refine Words.wpList_append_any _ rfl (.tmp 81) (.tmp 84) _ rfl w4.heap.size 5 i0 _ 1 1 Try.underlying22 hi0 hz0 hz1 hz2 rfl (by omega) (.slice (some ⟨w4.heap.size, 0, none⟩) 0 0) 0 [] rfl (lit_nil w4 _ rfl) w4.heap.size A6 0 0 ((L2.drop c6).map bV) rfl (piece_left_eq HN4.out) (one_bytes (L2.drop c6)) (by simp only [maxLen]; omega) (by omega) (by simp) ?_; intro v6'' w5 ho5 hg5 _; have HN5 := Lib.hid (piece_end_eq HN4.out HPM.out ho5 hg5); clear ho5 hg5))
            go_roundw
            case rel => exact ⟨k + 1, c + m, e2, L2.drop c6, by omega, by omega, by omega, by rw [List.length_drop]; have := HL2.out; omega, HCE.out, by go_num, rfl, by go_num, HN5.out⟩
            case measure => simp [intOf]; omega
          · go_wp2_with (first | (at_builtin; refine Words.wpList_append_any _ rfl (.tmp 78) (.tmp 79) _ rfl w1.heap.size 26 i6 _ 3 32 Try.underlying32 hi6 hz60 hz61 hz62 rfl (by omega) _ ps.length (ps.flatMap aduCells) rfl HG3.out.1 w3.heap.size A7 fs.length c7 (qs.flatMap aduCells) rfl (piece_rows HQ2.out HQ1.out) (adus_one HQ3.out) (by simp only [maxLen]; omega) (by omega) hbz1 ?_; intro v7' w4 ho4 hg4 _; have HN4 := Lib.hid (piece_got HG3.out HL3.out HW3.out HQ1.out HQ3.out hbz ho4 hg4); clear ho4 hg4) | (at_builtin; refine Words.wpList_append_any _ rfl (.tmp 81) (.tmp 84) _ rfl w4.heap.size 5 i0 _ 1 1 Try.underlying22 hi0 hz0 hz1 hz2 rfl (by omega) (.slice (some ⟨w4.heap.size, 0, none⟩) 0 0) 0 [] rfl (lit_nil w4 _ rfl) w4.heap.size (A6.map (·.add kk)) (L2.length - kk) (c6 - kk) ((L2.drop kk).map bV) rfl (piece_left HN4.out hkn hck) (one_bytes (L2.drop kk)) (by simp only [maxLen]; omega) (by omega) (by simp) ?_; intro v6'' w5 ho5 hg5 _; have HN5 := Lib.hid (piece_end HN4.out HPM.out hkn ho5 hg5); clear ho5 hg5))
            go_roundw
            case rel => exact ⟨k + 1, c + m, e2, L2.drop kk, by omega, by omega, by omega, by rw [List.length_drop]; have := HL2.out; omega, HCE.out, by go_num, rfl, by go_num, HN5.out⟩
            case measure => simp [intOf]; omega
        · go_wp2_with (at_builtin; refine Words.wpList_append_any _ rfl (.tmp 53) (.tmp 59) _ rfl Bl 5 i0 _ 1 1 Try.underlying22 hi0 hz0 hz1 hz2 rfl (by omega) _ left.length (left.map bV) rfl HL.out wr.heap.size (A.map (·.add at')) (at' + m - at') (c - at') (((b.drop at').take m).map bV) rfl (piece_ne HSL.out hca) HYS.out (by simp only [maxLen]; omega) (by omega) h2 ?_; intro v6' w2 ho2 hg2 _; rw [HE.out] at ho2; have HM := Lib.hid (PInv.more' h1 h2 HG.out HL.out HLW.out HYL.out ho2 hg2); clear ho2 hg2)
          have HL2 := Lib.hid (piece_len left b at' m hall hll)
          have HPM := Lib.hid (piece_more (m := m) HP.out)
          clear HP HSL HYS HYL HE HBY
          obtain ⟨A6, c6, h6⟩ := own_form HM.out.2.1
          subst h6
          have HB2 := Lib.hid (BytesAt.of_own HM.out.2.1)
          generalize left ++ (b.drop at').take m = L2 at *
          have hl2' : L2.length ≤ 9000 := by have := HL2.out; omega
          refine (Cut_own L2 _ w2 HB2.out (by omega)).mono ?_
          rintro e w3 ⟨⟨A7, c7, qs, rfl, hq1, hq2, hq3, -⟩, hb3⟩
          have HQ1 := Lib.hid hq1
          have HQ2 := Lib.hid hq2
          have HQ3 := Lib.hid hq3
          have HG3 := Lib.hid (HM.out.1.below hb3)
          have HL3 := Lib.hid (HM.out.2.1.kept (row := none) (grown_of_below hb3) (own_none _))
          have HW3 := Lib.hid (HM.out.2.2.1.trans (hb3.mono HM.out.2.2.1.size))
          have hbz : Bl ≤ w3.heap.size := Nat.le_trans HM.out.2.2.2 hb3.size
          have hbz1 : w1.heap.size ≤ w3.heap.size := Nat.le_trans h1 hbz
          have HCE := Lib.hid (first_none (cut_le L2).2).2
          have hkn := (cut_le L2).1
          have hql := cut_count L2
          have hcc6 : L2.length ≤ c6 := (own_cap HM.out.2.1)
          clear hq1 hq2 hq3 hb3 HM HG HL HLW HB2
          generalize (cut L2).1 = fs at *
          generalize (cut L2).2.1 = kk at *
          generalize (cut L2).2.2 = e2 at *
          have hpl : ps.length ≤ 9000 := HPC.out
          have hd3 : decide ((kk : Int) < 0) = false := decide_eq_false (by omega)
          have hd4 : decide (L2.length < kk) = false := decide_eq_false (by omega)
          have hd5 : decide ((L2.length : Int) < (kk : Int)) = false := decide_eq_false (by omega)
          by_cases hck : c6 = kk
          · subst hck
            go_wp2_with (first | (at_builtin; refine Words.wpList_append_any _ rfl (.tmp 78) (.tmp 79) _ rfl w1.heap.size 26 i6 _ 3 32 Try.underlying32 hi6 hz60 hz61 hz62 rfl (by omega) _ ps.length (ps.flatMap aduCells) rfl HG3.out.1 w3.heap.size A7 fs.length c7 (qs.flatMap aduCells) rfl (piece_rows HQ2.out HQ1.out) (adus_one HQ3.out) (by simp only [maxLen]; omega) (by omega) hbz1 ?_; intro v7' w4 ho4 hg4 _; have HN4 := Lib.hid (piece_got HG3.out HL3.out HW3.out HQ1.out HQ3.out hbz ho4 hg4); clear ho4 hg4) | (at_builtin; refine Words.wpList_append_any _ rfl (.tmp 81) (.tmp 84) _ rfl w4.heap.size 5 i0 _ 1 1 Try.underlying22 hi0 hz0 hz1 hz2 rfl (by omega) (.slice (some ⟨w4.heap.size, 0, none⟩) 0 0) 0 [] rfl (lit_nil w4 _ rfl) w4.heap.size A6 0 0 ((L2.drop c6).map bV) rfl (piece_left_eq HN4.out) (one_bytes (L2.drop c6)) (by simp only [maxLen]; omega) (by omega) (by simp) ?_; intro v6'' w5 ho5 hg5 _; have HN5 := Lib.hid (piece_end_eq HN4.out HPM.out ho5 hg5); clear ho5 hg5))
            go_roundw
            case rel => exact ⟨k + 1, at' + m, e2, L2.drop c6, by omega, by omega, by omega, by rw [List.length_drop]; have := HL2.out; omega, HCE.out, by go_num, rfl, by go_num, HN5.out⟩
            case measure => simp [intOf]; omega
          · go_wp2_with (first | (at_builtin; refine Words.wpList_append_any _ rfl (.tmp 78) (.tmp 79) _ rfl w1.heap.size 26 i6 _ 3 32 Try.underlying32 hi6 hz60 hz61 hz62 rfl (by omega) _ ps.length (ps.flatMap aduCells) rfl HG3.out.1 w3.heap.size A7 fs.length c7 (qs.flatMap aduCells) rfl (piece_rows HQ2.out HQ1.out) (adus_one HQ3.out) (by simp only [maxLen]; omega) (by omega) hbz1 ?_; intro v7' w4 ho4 hg4 _; have HN4 := Lib.hid (piece_got HG3.out HL3.out HW3.out HQ1.out HQ3.out hbz ho4 hg4); clear ho4 hg4) | (at_builtin; refine Words.wpList_append_any _ rfl (.tmp 81) (.tmp 84) _ rfl w4.heap.size 5 i0 _ 1 1 Try.underlying22 hi0 hz0 hz1 hz2 rfl (by omega) (.slice (some ⟨w4.heap.size, 0, none⟩) 0 0) 0 [] rfl (lit_nil w4 _ rfl) w4.heap.size (A6.map (·.add kk)) (L2.length - kk) (c6 - kk) ((L2.drop kk).map bV) rfl (piece_left HN4.out hkn hck) (one_bytes (L2.drop kk)) (by simp only [maxLen]; omega) (by omega) (by simp) ?_; intro v6'' w5 ho5 hg5 _; have HN5 := Lib.hid (piece_end HN4.out HPM.out hkn ho5 hg5); clear ho5 hg5))
            go_roundw
            case rel => exact ⟨k + 1, at' + m, e2, L2.drop kk, by omega, by omega, by omega, by rw [List.length_drop]; have := HL2.out; omega, HCE.out, by go_num, rfl, by go_num, HN5.out⟩
            case measure => simp [intOf]; omega
    · have hex : bd ≠ 0 ∨ b.drop at' = [] := by
        by_cases hk1 : k ≤ cuts.length
        · exact .inl (fun h => hgo ⟨hk1, h⟩)
        · exact .inr (List.drop_eq_nil_of_le (by have := hend (by omega); omega))
      have hfin := h6.end_ hex
      rw [List.take_append_drop] at hfin
      have HFIN := Lib.hid hfin
      have HGF := Lib.hid h3.frames
      have HBY := Lib.hid (LawFrame.RowsAt.below HB.out HW.out)
      have hpl : (ps.map (·.1)).length ≤ 9000 := by rw [List.length_map]; exact piece_count hl h6
      have htest : (∃ h : (cuts.length : Int) < (k : Int), True) ∨ ((k : Int) ≤ (cuts.length : Int) ∧ bd = 31) := by
        by_cases hk1 : k ≤ cuts.length
        · exact .inr ⟨by omega, by rcases hbd with h | h; exact absurd ⟨hk1, h⟩ hgo; exact h⟩
        · exact .inl ⟨by omega, trivial⟩
      clear h3 h4 h5 h6 HI hfin hex hbd hgo
      rcases htest with ⟨ht, -⟩ | ⟨ht, rfl⟩
      all_goals
        go_wp2_with fail
        refine (Cut_any b _ wr HBY.out (by omega)).mono ?_
        rintro e w3 ⟨⟨A7, c7, rfl, hF7, -⟩, hb3⟩
        rw [HFIN.out.2]
        rw [HFIN.out.1] at hF7 ⊢
        have HF7 := Lib.hid hF7
        have HGF3 := Lib.hid (HGF.out.below hb3)
        have HX3 := Lib.hid (HW.out.trans (hb3.mono HW.out.size))
        clear hF7 hb3 HGF HBY HW
        generalize ps.map (·.1) = gs at *
        go_wp2_with fail
        refine (SameAll_true gs _ _ w3 HGF3.out HF7.out (by omega)).mono ?_
        rintro e w4 ⟨rfl, hb4⟩
        go_wp2_with fail
        go_ret
        exact ⟨rfl, HX3.out.trans (hb4.mono HX3.out.size)⟩
set_option maxRecDepth 100000 in
theorem mbapPieces_lifted (os : Os) (started : os.Started) (H : Type) (enc : TypeId × Value → H) :
    ReturnsInHanded {} Try.checked os 6 .any (Rows.mbapPiecesSpec.pre6 enc Try.prog Try.f6 Rows.mbapPiecesRow.domain false) (Rows.mbapPiecesSpec.post enc Try.prog Try.f6 false true false false) := by
  refine LawFrame.handed (C := Try.checked) (tb := 4) (by kernel_rfl) (by kernel_rfl) (by kernel_rfl) Try.underlying4 rfl (fun ds hd => ?_) own started (by kernel_rfl) Try.func6
    (ChangeSpec.witness6 (enc := enc) (C := Try.checked) false ⟨#[], #[.slice none 0 0, .slice none 0 0], []⟩ 8 (by kernel_rfl) (by kernel_rfl) (by kernel_rfl) (by kernel_rfl)) ?_
  · rw [Try.params6] at hd
    match ds, hd with
    | [d1, d2], _ => rfl
  · intro W args ds before base hval hA hlt hsz
    rw [Try.params6] at hval hA
    obtain ⟨v0, vs0, d0, ds0, p0, q0, hargs, rfl, rfl, h0, r0⟩ := trodAll_cons hA
    obtain ⟨v1, vs1, d1, ds1, p1, q1, rfl, rfl, rfl, h1, r1⟩ := trodAll_cons r0
    obtain ⟨rfl, rfl, rfl⟩ := trodAll_nil r1
    obtain rfl : args = #[v0, v1] := by cases args; simp_all
    obtain ⟨b, hb, _⟩ := LawFrame.open_bytes Try.underlying22 Try.underlying5 (by kernel_rfl) (hval 0 22 v0 rfl rfl) h0
    obtain ⟨m, hm, _⟩ := LawFrame.open_bytes Try.underlying22 Try.underlying5 (by kernel_rfl) (hval 1 22 v1 rfl rfl) h1
    by_cases h5 : 9000 < b.length ∨ 300 < m.length
    · obtain ⟨A, c, rfl, hc, -⟩ := hb
      obtain ⟨A2, c2, rfl, hc2, -⟩ := hm
      exact pieces_big A A2 _ c _ c2 W h5
    · exact pieces_walk b m v0 v1 W (by omega) (by omega) hb hm
theorem mbapPieces_holds : Rows.MbapPiecesSaid :=
  OpenClaim.holds_of_wide 6 Try.f6 rfl rfl rfl rfl rfl rfl rfl ⟨rfl, rfl, rfl, rfl, rfl⟩ rfl rfl rfl rfl rfl (by kernel_rfl) Try.func6 (by kernel_rfl)
    (of_decide_eq_true (by kernel_rfl)) (by unfold Func.isWrapper; first | (rw [if_pos (by decide +kernel)]; kernel_rfl) | (rw [if_neg (by decide +kernel)]; exact ⟨rfl, rfl⟩))
    (fun os started H enc _ => mbapPieces_lifted os started H enc)
#print axioms mbapPieces_holds
end Go.Proofs.Ythcgomfejibkhaa
