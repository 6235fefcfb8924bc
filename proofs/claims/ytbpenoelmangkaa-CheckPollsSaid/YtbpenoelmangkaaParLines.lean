/-
  The document's lines of a text, walked where nothing is wrong.
-/
import Derived.Test.YtbpenoelmangkaaParWords
namespace Go.Proofs.Ytbpenoelmangkaa
open Go.RowKit
/-- a line: its number, the slice of its words, and the words -/
structure Ln where
  no : Int
  v : Value
  ws : List ByteArray
def Ln.cells (x : Ln) : List Value := [.int .i64 x.no, x.v]
theorem Ln.cells_len (x : Ln) : x.cells.length = 2 := rfl
def Ln.told (x : Ln) : Int × List ByteArray := (x.no, x.ws)
theorem line_info : (Try.prog.info? 79).map (fun i => (i.zero, i.size, i.bytes)) = some (some (.agg #[.int .i64 0, .slice none 0 0]), 2, 32) := by kernel_rfl
theorem line_parts : ∃ i, Try.prog.info? 79 = some i ∧ i.zero = some (.agg #[.int .i64 0, .slice none 0 0]) ∧ i.size = 2 ∧ i.bytes = 32 := by
  have h := line_info
  cases e : Try.prog.info? 79 with
  | none => rw [e] at h; cases h
  | some i =>
    rw [e] at h
    simp only [Option.map_some, Option.some.injEq, Prod.mk.injEq] at h
    exact ⟨i, rfl, h.1, h.2.1, h.2.2⟩
def isEnd (s : ByteArray) (i : Nat) : Bool := match s.data.toList[i]? with | some c => c == 10 | none => true
/-- where the line at hand begins, its number, and the lines ahead of it -/
def lst (s : ByteArray) : Nat → Nat × Nat × List (Int × List ByteArray)
  | 0 => (0, 1, [])
  | i + 1 => if isEnd s i then (i + 1, (lst s i).2.1 + 1, if wordsF (s.extract (lst s i).1 i) = [] then (lst s i).2.2 else (lst s i).2.2 ++ [(((lst s i).2.1 : Int), wordsF (s.extract (lst s i).1 i))]) else lst s i
def linesF (s : ByteArray) : List (Int × List ByteArray) := (lst s (s.size + 1)).2.2
theorem lst_no {s : ByteArray} {i : Nat} (h : isEnd s i = false) : lst s (i + 1) = lst s i := by
  conv => lhs; unfold lst
  rw [h]; rfl
theorem lst_yes {s : ByteArray} {i : Nat} (h : isEnd s i = true) : lst s (i + 1) = (i + 1, (lst s i).2.1 + 1, if wordsF (s.extract (lst s i).1 i) = [] then (lst s i).2.2 else (lst s i).2.2 ++ [(((lst s i).2.1 : Int), wordsF (s.extract (lst s i).1 i))]) := by
  conv => lhs; unfold lst
  rw [if_pos h]
theorem lst_le (s : ByteArray) : ∀ i, (lst s i).1 ≤ i ∧ (lst s i).2.1 ≤ i + 1 ∧ (lst s i).2.2.length ≤ i
  | 0 => ⟨Nat.le_refl _, Nat.le_refl _, Nat.le_refl _⟩
  | i + 1 => by
    have := lst_le s i
    cases h : isEnd s i with
    | false => rw [lst_no h]; omega
    | true =>
      rw [lst_yes h]
      refine ⟨Nat.le_refl _, by show (lst s i).2.1 + 1 ≤ _; omega, ?_⟩
      show (if _ then _ else _ : List _).length ≤ _
      split
      · omega
      · simp; omega
structure TextP (s : ByteArray) : Prop where
  small : s.size ≤ 4096
  lines : ∀ i, i < s.size + 1 → isEnd s i = true → LineP (s.extract (lst s i).1 i)
/-- the lines that are gathered lie at vo, and their words beside them -/
def LnsIs (W0 : World) (l : List (Int × List ByteArray)) (n : Nat) (vo : Value) (wr : World) : Prop :=
  ∃ xs : List Ln, n = xs.length ∧ xs.map Ln.told = l ∧ wr.ownsRow W0.heap.size 79 2 vo n (xs.flatMap Ln.cells) ∧ (∀ x ∈ xs, ∃ B, wr.ownsRow B 9 1 x.v x.ws.length (x.ws.flatMap sC)) ∧ Below W0.heap.size W0 wr
theorem LnsIs.below {W0 wr w2 : World} {n : Nat} {l : List (Int × List ByteArray)} {vo : Value} (h : LnsIs W0 l n vo wr) (hb : Below wr.heap.size wr w2) : LnsIs W0 l n vo w2 := by
  obtain ⟨xs, h1, h2, h3, h4, h5⟩ := h
  refine ⟨xs, h1, h2, own_below h3 hb, fun x hx => ?_, h5.trans (hb.mono h5.size)⟩
  obtain ⟨B, hB⟩ := h4 x hx
  exact ⟨B, own_below hB hb⟩
theorem LnsIs.own {W0 wr : World} {n : Nat} {l : List (Int × List ByteArray)} {vo : Value} (h : LnsIs W0 l n vo wr) : ∃ xs : List Ln, n = xs.length ∧ wr.ownsRow W0.heap.size 79 2 vo n (xs.flatMap Ln.cells) ∧
    ∀ (w2 : World) (ob : Obj) (v' : Value) (no : Int) (v : Value) (ws : List ByteArray) (B : Nat), wr.ownsRow B 9 1 v ws.length (ws.flatMap sC) →
      w2.ownsRow W0.heap.size 79 2 v' (n + 1) (xs.flatMap Ln.cells ++ [.int .i64 no, v]) → (wr.alloc ob).grownBy w2 vo.ownBlock → LnsIs W0 (l ++ [(no, ws)]) (n + 1) v' w2 := by
  obtain ⟨xs, h1, h2, h3, h4, h5⟩ := h
  refine ⟨xs, h1, h3, fun w2 ob v' no v ws B hv ho hg => ?_⟩
  refine ⟨xs ++ [⟨no, v, ws⟩], by simp [h1], by simp [h2, Ln.told], by simpa [Ln.cells] using ho, fun x hx => ?_, (h5.alloc h5.size ob).grown hg (by have := h5.size; simp; omega) (fun k hk => (h3.lt k hk).1)⟩
  rcases List.mem_append.1 hx with hx | hx
  · obtain ⟨B', hB'⟩ := h4 x hx
    exact ⟨B', (hB'.alloc ob).kept hg (own_ne hB' h3 (by decide))⟩
  · obtain rfl := List.mem_singleton.1 hx
    exact ⟨B, (hv.alloc ob).kept hg (own_ne hv h3 (by decide))⟩
def LinesIs (l : List (Int × List ByteArray)) (w : World) (e : Ending) (w' : World) : Prop := ∃ v n, e = .returned (.tuple #[v, .int .i64 0, .int .i64 0]) ∧ LnsIs w l n v w'
theorem reads_line (w : World) (g : Nat) (hg : w.heap.size = g) (no : Int) (v : Value) (t : TypeId) : Words.Reads (w.alloc (.cells #[.int .i64 no, v] t)) (g + 1) 2 (some ⟨g, 0, none⟩) 1 [.int .i64 no, v] := by
  subst hg
  exact LawFrame.reads_block (xs := [.int .i64 no, v]) (t := t) (heap_alloc_new w _) (by omega) rfl
theorem one_line (no : Int) (A : Option Addr) (n c : Nat) : ∀ u ∈ [Value.int .i64 no, .slice A n c], u.oneCell' = true := by
  intro u hu
  simp only [List.mem_cons, List.not_mem_nil, or_false] at hu
  rcases hu with rfl | rfl <;> rfl
set_option maxHeartbeats 4000000 in
set_option maxRecDepth 100000 in
theorem lines_any (w : World) (s : ByteArray) (hs : TextP s) :
    Calls Try.prog 41 #[.string s] w (LinesIs (linesF s) w) := by
  obtain ⟨i0, hi0, hz0, hz1, hz2⟩ := line_parts
  have HS := Lib.hid hs
  have hsz := hs.small
  clear hs
  have HI0 : Hid (LnsIs w (lst s 0).2.2 0 (.slice none 0 0) w) := Lib.hid ⟨[], rfl, rfl, World.ownsRow_nil _ _ _ _, fun x hx => (by cases hx), Below.refl _ _⟩
  go_enter Try.func41, Try.ntmps41
  go_wp2_with fail
  go_loopw [5, 6, 7, 8] (fun o no f i wr => ∃ (k n N F : Nat), k ≤ s.size + 1 ∧ i = .int .i64 (k : Int) ∧ f = .int .i64 (F : Int) ∧ no = .int .i64 (N : Int) ∧ (F ≤ k ∧ n ≤ k ∧ N ≤ k + 1) ∧ Hid (F = (lst s k).1 ∧ N = (lst s k).2.1) ∧ Hid (LnsIs w (lst s k).2.2 n o wr)) (fun _ _ _ i _ => s.size + 1 - (intOf i).toNat)
  case atStart => exact ⟨0, 0, 1, 0, Nat.zero_le _, rfl, rfl, rfl, ⟨Nat.le_refl _, Nat.le_refl _, Nat.le_refl _⟩, Lib.hid ⟨rfl, rfl⟩, HI0⟩
  case round =>
    clear HI0
    obtain ⟨k, n, N, F, hk, rfl, rfl, rfl, hF, HF, HI⟩ := hrel
    by_cases hlt : k < s.size + 1
    · have hk1 : (k : Int) ≤ (s.size : Int) := by omega
      cases hend : isEnd s k with
      | false =>
        have HN : Hid (lst s (k + 1) = lst s k) := Lib.hid (lst_no hend)
        have hks : k < s.size := by
          rcases Nat.lt_or_ge k s.size with h | h
          · exact h
          · unfold isEnd at hend
            rw [List.getElem?_eq_none (by simpa using h)] at hend
            cases hend
        obtain ⟨c, hc⟩ := string_at hks
        have hix := fun w => index_at (P := Try.prog) (t := 9) (by go_side) hc w
        have hk2 : (k : Int) < (s.size : Int) := by omega
        have h1 : ((c.toNat : Int) == 10) = false := by
          unfold isEnd at hend
          rw [hc] at hend
          rw [beq_eq_false_iff_ne]
          intro e
          have : c = 10 := UInt8.toNat_inj.1 (by have h9 : (10 : UInt8).toNat = 10 := rfl; omega)
          rw [this] at hend
          cases hend
        have h2 : ((c.toNat : Int) != 10) = true := by rw [bne, h1]; rfl
        have HF2 : Hid (F = (lst s (k + 1)).1 ∧ N = (lst s (k + 1)).2.1) := Lib.hid (by rw [HN.out]; exact HF.out)
        have HI2 : Hid (LnsIs w (lst s (k + 1)).2.2 n u5 wr) := Lib.hid (by rw [HN.out]; exact HI.out)
        clear hc hend HN HF HI
        go_wp2_with fail
        go_roundw
        case rel => exact ⟨k + 1, n, N, F, by omega, by go_num, by go_num, by go_num, ⟨by omega, by omega, by omega⟩, HF2, HI2⟩
        case measure => simp [intOf]; omega
      | true =>
        have hcs : k = s.size ∨ (k < s.size ∧ s.data.toList[k]? = some 10) := by
          rcases Nat.lt_or_ge k s.size with h | h
          · obtain ⟨c, hc⟩ := string_at h
            refine .inr ⟨h, ?_⟩
            unfold isEnd at hend
            rw [hc] at hend
            rw [hc, show c = 10 by simpa using hend]
          · exact .inl (by omega)
        have HY := Lib.hid (lst_yes hend)
        have HLP : Hid (LineP (s.extract F k)) := Lib.hid (by rw [HF.out.1]; exact HS.out.lines k hlt hend)
        have hF0 : (0 : Int) ≤ (F : Int) := by omega
        have hFk : (F : Int) ≤ (k : Int) := by omega
        obtain ⟨L, hL⟩ : ∃ L, L = wordsF (s.extract F k) := ⟨_, rfl⟩
        have HYF : Hid (k + 1 = (lst s (k + 1)).1 ∧ N + 1 = (lst s (k + 1)).2.1) := Lib.hid (by rw [HY.out]; exact ⟨rfl, by rw [HF.out.2]⟩)
        have HYL : Hid ((lst s (k + 1)).2.2 = if L = [] then (lst s k).2.2 else (lst s k).2.2 ++ [((N : Int), L)]) := Lib.hid (by rw [HY.out, hL, HF.out.1, HF.out.2])
        have HLL := Lib.hid hL
        have hLl : L.length ≤ 14 := by rw [hL]; exact HLP.out.few
        clear hend HY hL
        rcases hcs with hks | ⟨hks, hc⟩
        · have hk2 : ¬ (k : Int) < (s.size : Int) := by omega
          clear hks
          go_wp2_with fail
          refine (words_any _ _ HLP.out).mono ?_
          rintro e w1 ⟨v, rfl, hv, hb⟩
          have HI1 := Lib.hid (HI.out.below hb)
          have HV : Hid (w1.ownsRow wr.heap.size 9 1 v L.length (L.flatMap sC)) := Lib.hid (by rw [HLL.out]; exact hv)
          clear hv hb HI HLP
          obtain ⟨A, c, e⟩ := own_form HV.out
          subst e
          by_cases hL0 : L = []
          · have hl0 : ¬ (0 : Int) < (L.length : Int) := by rw [hL0]; simp
            have HI2 : Hid (LnsIs w (lst s (k + 1)).2.2 n u5 w1) := Lib.hid (by rw [HYL.out, if_pos hL0]; exact HI1.out)
            clear hL0 HI1 HV HYL
            go_wp2_with fail
            go_roundw
            case rel => exact ⟨k + 1, n, N + 1, k + 1, by omega, by go_num, by go_num, by go_num, ⟨by omega, by omega, by omega⟩, HYF, HI2⟩
            case measure => simp [intOf]; omega
          · have hl0 : (0 : Int) < (L.length : Int) := by
              have := List.length_pos_iff.2 hL0
              omega
            obtain ⟨xs, hx1, hx2, hx3⟩ := HI1.out.own
            have HX2 := Lib.hid hx2
            have HX3 := Lib.hid hx3
            have hwr : w.heap.size ≤ w1.heap.size := by obtain ⟨xs, -, -, -, -, hb⟩ := HI1.out; exact hb.size
            have HO := Lib.hid (one_line (N : Int) A L.length c)
            have HLN : Hid ((lst s k).2.2 ++ [((N : Int), L)] = (lst s (k + 1)).2.2) := Lib.hid (by rw [HYL.out, if_neg hL0])
            clear hL0 HYL hx1 hx2 hx3
            go_wp2_with (at_builtin; refine Words.wpList_append_any _ rfl (.tmp 45) (.tmp 49) _ rfl w.heap.size 79 i0 _ 2 32 Try.underlying71 hi0 hz0 hz1 hz2 rfl (by omega) u5 n _ rfl (HX2.out.alloc _) (w1.heap.size + 1) (some ⟨w1.heap.size, 0, none⟩) 1 1 [.int .i64 (N : Int), .slice A L.length c] rfl (reads_line _ _ rfl (N : Int) _ _) HO.out (by simp only [maxLen]; omega) (by omega) (by simp; omega) ?_; intro v' w2 ho hg hat; have HI2 : Hid (LnsIs w (lst s (k + 1)).2.2 (n + 1) v' w2) := Lib.hid (by rw [← HLN.out]; exact HX3.out w2 _ v' (N : Int) _ L _ HV.out ho hg); clear ho hg hat HI1 HX2 HX3 HV)
            go_roundw
            case rel => exact ⟨k + 1, n + 1, N + 1, k + 1, by omega, by go_num, by go_num, by go_num, ⟨by omega, by omega, by omega⟩, HYF, HI2⟩
            case measure => simp [intOf]; omega
        · have hk2 : (k : Int) < (s.size : Int) := by omega
          have hix := fun w => index_at (P := Try.prog) (t := 9) (by go_side) hc w
          rw [show ((10 : UInt8).toNat : Int) = 10 from rfl] at hix
          clear hks hc
          go_wp2_with fail
          refine (words_any _ _ HLP.out).mono ?_
          rintro e w1 ⟨v, rfl, hv, hb⟩
          have HI1 := Lib.hid (HI.out.below hb)
          have HV : Hid (w1.ownsRow wr.heap.size 9 1 v L.length (L.flatMap sC)) := Lib.hid (by rw [HLL.out]; exact hv)
          clear hv hb HI HLP
          obtain ⟨A, c, e⟩ := own_form HV.out
          subst e
          by_cases hL0 : L = []
          · have hl0 : ¬ (0 : Int) < (L.length : Int) := by rw [hL0]; simp
            have HI2 : Hid (LnsIs w (lst s (k + 1)).2.2 n u5 w1) := Lib.hid (by rw [HYL.out, if_pos hL0]; exact HI1.out)
            clear hL0 HI1 HV HYL
            go_wp2_with fail
            go_roundw
            case rel => exact ⟨k + 1, n, N + 1, k + 1, by omega, by go_num, by go_num, by go_num, ⟨by omega, by omega, by omega⟩, HYF, HI2⟩
            case measure => simp [intOf]; omega
          · have hl0 : (0 : Int) < (L.length : Int) := by
              have := List.length_pos_iff.2 hL0
              omega
            obtain ⟨xs, hx1, hx2, hx3⟩ := HI1.out.own
            have HX2 := Lib.hid hx2
            have HX3 := Lib.hid hx3
            have hwr : w.heap.size ≤ w1.heap.size := by obtain ⟨xs, -, -, -, -, hb⟩ := HI1.out; exact hb.size
            have HO := Lib.hid (one_line (N : Int) A L.length c)
            have HLN : Hid ((lst s k).2.2 ++ [((N : Int), L)] = (lst s (k + 1)).2.2) := Lib.hid (by rw [HYL.out, if_neg hL0])
            clear hL0 HYL hx1 hx2 hx3
            go_wp2_with (at_builtin; refine Words.wpList_append_any _ rfl (.tmp 45) (.tmp 49) _ rfl w.heap.size 79 i0 _ 2 32 Try.underlying71 hi0 hz0 hz1 hz2 rfl (by omega) u5 n _ rfl (HX2.out.alloc _) (w1.heap.size + 1) (some ⟨w1.heap.size, 0, none⟩) 1 1 [.int .i64 (N : Int), .slice A L.length c] rfl (reads_line _ _ rfl (N : Int) _ _) HO.out (by simp only [maxLen]; omega) (by omega) (by simp; omega) ?_; intro v' w2 ho hg hat; have HI2 : Hid (LnsIs w (lst s (k + 1)).2.2 (n + 1) v' w2) := Lib.hid (by rw [← HLN.out]; exact HX3.out w2 _ v' (N : Int) _ L _ HV.out ho hg); clear ho hg hat HI1 HX2 HX3 HV)
            go_roundw
            case rel => exact ⟨k + 1, n + 1, N + 1, k + 1, by omega, by go_num, by go_num, by go_num, ⟨by omega, by omega, by omega⟩, HYF, HI2⟩
            case measure => simp [intOf]; omega
    · have hks : k = s.size + 1 := by omega
      have HFI : Hid (LnsIs w (linesF s) n u5 wr) := Lib.hid (by have h := HI.out; rw [hks] at h; exact h)
      have hk2 : ¬ (k : Int) ≤ (s.size : Int) := by omega
      clear hks HI HF
      go_wp2_with fail
      go_ret3
      exact ⟨_, _, rfl, HFI.out⟩
end Go.Proofs.Ytbpenoelmangkaa
