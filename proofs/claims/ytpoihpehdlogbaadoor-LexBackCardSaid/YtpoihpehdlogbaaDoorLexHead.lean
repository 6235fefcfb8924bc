/-
  The live question, walked: it is answered yes.
-/
import Derived.Test.YtpoihpehdlogbaaDoorLexPrint
namespace Go.Proofs.YtpoihpehdlogbaaDoor
open Go.RowKit
theorem lns_ls {W : World} {B n : Nat} {l : List (Int × List ByteArray)} {v : Value} (h : LnsAt W B l n v) (hl : ∀ x ∈ l, x.2.length ≤ 1000000) : ∃ xs : List Ln, n = xs.length ∧ xs.map Ln.told = l ∧ LsAt W xs v := by
  obtain ⟨xs, h1, h2, h3, h4⟩ := h
  refine ⟨xs, h1, h2, LawFrame.RowsAt.of_own Ln.cells_len (by decide) h3, fun x hx => ?_⟩
  obtain ⟨B', hB⟩ := h4 x hx
  refine ⟨LawFrame.RowsAt.of_own sC_len (by decide) hB, ?_⟩
  have := hl x.told (by rw [← h2]; exact List.mem_map_of_mem hx)
  unfold Ln.told at this
  simp only at this
  omega
theorem told_small (l : List UInt8) (h : textE l = none) : ∀ x ∈ toldL (textL l), x.2.length ≤ 1000000 := by
  intro x hx
  unfold toldL at hx
  obtain ⟨y, hy, rfl⟩ := List.mem_map.1 hx
  have := (textL_fine (textE_none h).2 y hy).2.1
  unfold toldOf
  simp only [List.length_map]
  omega
theorem lines_s (w : World) (s : ByteArray) (hs : s.size ≤ 1000000) (ht : Tab w) : Calls Tryd.prog 11 #[.string s] w (LinesIs s.data.toList (textE s.data.toList) w) := by
  have h := lines_any w s.data.toList (by simpa using hs) ht
  rw [toB_of] at h
  exact h
/-- lines that are told -/
def LinesOk (l : List UInt8) (w : World) (e : Ending) (w' : World) : Prop := ∃ (xs : List Ln) (A : Option Addr) (c : Nat), e = .returned (.tuple #[.slice A xs.length c, .int .i64 0, .int .i64 0]) ∧ xs.map Ln.told = toldL (textL l) ∧ LsAt w' xs (.slice A xs.length c) ∧ Below w.heap.size w w'
theorem lines_ok (w : World) (s : ByteArray) (hs : s.size ≤ 1000000) (ht : Tab w) (he : textE s.data.toList = none) : Calls Tryd.prog 11 #[.string s] w (LinesOk s.data.toList w) := by
  refine (lines_s w s hs ht).mono ?_
  intro e w' h
  unfold LinesIs at h
  rw [he] at h
  obtain ⟨A, n, c, rfl, h1, h2⟩ := h
  obtain ⟨xs, rfl, h3, h4⟩ := lns_ls h1 (told_small _ he)
  exact ⟨xs, A, c, rfl, h3, h4, h2⟩
theorem lines_bad (w : World) (s : ByteArray) (hs : s.size ≤ 1000000) (ht : Tab w) {k no : Int} (he : textE s.data.toList = some (k, no)) : Calls Tryd.prog 11 #[.string s] w fun e w' => e = .returned (.tuple #[.slice none 0 0, .int .i64 k, .int .i64 no]) ∧ Below w.heap.size w w' := by
  refine (lines_s w s hs ht).mono ?_
  intro e w' h
  unfold LinesIs at h
  rw [he] at h
  exact h
theorem bs_told {xs : List Ln} {l : List (Int × List ByteArray)} (h : xs.map Ln.told = l) : xs.map Ln.bs = l.map (fun p => p.2.map (fun s => s.data.toList)) := by
  rw [← h, List.map_map]; rfl
theorem print_s (w : World) (xs : List Ln) (v : Value) (h : LsAt w xs v) (hn : xs.length ≤ 1125899906842624) (hsz : (printL (xs.map Ln.bs)).length ≤ 1000000) :
    Calls Tryd.prog 10 #[v] w fun e w' => ∃ P, e = .returned (.string P) ∧ P = toB (printL (xs.map Ln.bs)) ∧ Below w.heap.size w w' := by
  refine (print_any w xs v h hn hsz).mono ?_
  rintro e w' ⟨rfl, hb⟩
  exact ⟨_, rfl, rfl, hb⟩
theorem lit_strs (w : World) (l : List ByteArray) (hl : l.length ≤ 1000000) : StrsAt (w.alloc (.cells (l.map Value.string).toArray 9)) l (.slice (some ⟨w.heap.size, 0, none⟩) l.length l.length) := by
  refine LawFrame.RowsAt.of_own (base := w.heap.size) (e := 9) (n := l.length) sC_len (by decide) ?_
  have e : l.flatMap sC = l.map Value.string := LawFrame.flat_one Value.string l
  rw [e]
  exact World.ownsRow_lit (base := w.heap.size) (e := 9) (size := 1) w (l.map Value.string).toArray l.length (Nat.le_refl _) (by simp only [maxLen]; omega) (by simp)
def headT : List UInt8 := [97, 32, 32, 98, 49, 32, 35, 32, 120, 32, 121, 10, 10, 32, 32, 99, 10, 35, 32, 100]
def headL (v1 v2 : Value) : List Ln := [⟨1, v1, [⟨#[97]⟩, ⟨#[98, 49]⟩]⟩, ⟨3, v2, [⟨#[99]⟩]⟩]
theorem head_t : textE headT = none := by kernel_rfl
theorem head_l (v1 v2 : Value) : toldL (textL headT) = (headL v1 v2).map Ln.told := by kernel_rfl
theorem head_bs (v1 v2 : Value) : printL ((headL v1 v2).map Ln.bs) = [97, 32, 98, 49, 10, 99, 10] := by kernel_rfl
theorem head_ls (w : World) : LsAt (((w.alloc (.cells #[.string ⟨#[97]⟩, .string ⟨#[98, 49]⟩] 9)).alloc (.cells #[.string ⟨#[99]⟩] 9)).alloc (.cells #[.int .i64 1, .slice (some ⟨w.heap.size, 0, none⟩) 2 2, .int .i64 3, .slice (some ⟨w.heap.size + 1, 0, none⟩) 1 1] 27))
    (headL (.slice (some ⟨w.heap.size, 0, none⟩) 2 2) (.slice (some ⟨w.heap.size + 1, 0, none⟩) 1 1)) (.slice (some ⟨w.heap.size + 1 + 1, 0, none⟩) 2 2) := by
  have a := lit_strs w [⟨#[97]⟩, ⟨#[98, 49]⟩] (by decide)
  have b := lit_strs (w.alloc (.cells #[.string ⟨#[97]⟩, .string ⟨#[98, 49]⟩] 9)) [⟨#[99]⟩] (by decide)
  have hz : (w.alloc (.cells #[.string ⟨#[97]⟩, .string ⟨#[98, 49]⟩] 9)).heap.size = w.heap.size + 1 := World.size_alloc _ _
  rw [hz] at b
  have hz2 : ((w.alloc (.cells #[.string ⟨#[97]⟩, .string ⟨#[98, 49]⟩] 9)).alloc (.cells #[.string ⟨#[99]⟩] 9)).heap.size = w.heap.size + 1 + 1 := by rw [World.size_alloc, World.size_alloc]
  have c : LawFrame.RowsAt (((w.alloc (.cells #[.string ⟨#[97]⟩, .string ⟨#[98, 49]⟩] 9)).alloc (.cells #[.string ⟨#[99]⟩] 9)).alloc (.cells #[.int .i64 1, .slice (some ⟨w.heap.size, 0, none⟩) 2 2, .int .i64 3, .slice (some ⟨w.heap.size + 1, 0, none⟩) 1 1] 27)) 2 Ln.cells
    (headL (.slice (some ⟨w.heap.size, 0, none⟩) 2 2) (.slice (some ⟨w.heap.size + 1, 0, none⟩) 1 1)) (.slice (some ⟨w.heap.size + 1 + 1, 0, none⟩) 2 2) := by
    rw [← hz2]
    exact LawFrame.RowsAt.of_own (base := ((w.alloc (.cells #[.string ⟨#[97]⟩, .string ⟨#[98, 49]⟩] 9)).alloc (.cells #[.string ⟨#[99]⟩] 9)).heap.size) (e := 27) Ln.cells_len (by decide) (World.ownsRow_lit (e := 27) (size := 2) _ #[.int .i64 1, .slice (some ⟨w.heap.size, 0, none⟩) 2 2, .int .i64 3, .slice (some ⟨w.heap.size + 1, 0, none⟩) 1 1] 2 (Nat.le_refl _) (by simp only [maxLen]; omega) rfl)
  refine ⟨c, fun x hx => ?_⟩
  have b1 : ∀ (W : World) (o : Obj), Below W.heap.size W (W.alloc o) := fun W o => (Below.refl _ _).alloc (Nat.le_refl _) o
  simp only [headL, List.mem_cons, List.not_mem_nil, or_false] at hx
  rcases hx with rfl | rfl
  · exact ⟨LawFrame.RowsAt.below (LawFrame.RowsAt.below a (b1 _ _)) (b1 _ _), by simp⟩
  · exact ⟨LawFrame.RowsAt.below b (b1 _ _), by simp⟩
set_option maxHeartbeats 4000000 in
set_option maxRecDepth 100000 in
theorem head_any (w : World) (ht : Tab w) : Calls Tryd.prog 7 #[] w fun e w' => e = .returned (.bool true) ∧ Below w.heap.size w w' := by
  have HT := Lib.hid ht
  clear ht
  go_enter Tryd.func7, Tryd.ntmps7
  go_wp2_with fail
  refine (lines_ok w ⟨#[97, 32, 32, 98, 49, 32, 35, 32, 120, 32, 121, 10, 10, 32, 32, 99, 10, 35, 32, 100]⟩ (by decide) HT.out head_t).mono ?_
  rintro e w1 ⟨xs, A, c, rfl, hx, hl, hb⟩
  have HX : Hid (xs.map Ln.told = toldL (textL headT)) := Lib.hid hx
  have HL := Lib.hid hl
  have HB := Lib.hid hb
  clear hx hl hb
  go_wp2_with fail
  refine (lines_bad (k := 71) (no := 2) w1 ⟨#[97, 10, 66]⟩ (by decide) (HT.out.below HB.out (Nat.le_refl _)) (by kernel_rfl)).mono ?_
  rintro e w2 ⟨rfl, hb2⟩
  have HL2 := Lib.hid (HL.out.below hb2)
  have HB2 := Lib.hid (HB.out.trans (hb2.mono HB.out.size))
  clear hb2 HL HB
  go_wp2_with fail
  refine (lines_bad (k := 72) (no := 1) w2 ⟨#[97, 98, 99, 100, 101, 102, 103, 104, 105, 106, 107, 108, 109, 110, 111, 112, 113]⟩ (by decide) (HT.out.below HB2.out (Nat.le_refl _)) (by kernel_rfl)).mono ?_
  rintro e w3 ⟨rfl, hb3⟩
  have HL3 := Lib.hid (HL2.out.below hb3)
  have HB3 := Lib.hid (HB2.out.trans (hb3.mono HB2.out.size))
  clear hb3 HL2 HB2
  have hxl : xs.length = 2 := by
    have := congrArg List.length HX.out
    rw [List.length_map] at this
    rw [this]; rfl
  have HXL := Lib.hid hxl
  clear hxl
  go_wp2_with fail
  have hb : Below w3.heap.size w3 (((w3.alloc (.cells #[.string ⟨#[97]⟩, .string ⟨#[98, 49]⟩] 9)).alloc (.cells #[.string ⟨#[99]⟩] 9)).alloc (.cells #[.int .i64 1, .slice (some ⟨w3.heap.size, 0, none⟩) 2 2, .int .i64 3, .slice (some ⟨w3.heap.size + 1, 0, none⟩) 1 1] 27)) := (((Below.refl _ _).alloc (Nat.le_refl _) _).alloc (by simp) _).alloc (by simp; omega) _
  have HL4 := Lib.hid (HL3.out.below hb)
  have HB4 := Lib.hid (HB3.out.trans (hb.mono HB3.out.size))
  refine (same_any _ xs _ _ _ HL4.out (head_ls w3) (by have := HXL.out; omega) (by simp [headL])).mono ?_
  rintro e w4 ⟨rfl, m, rfl⟩
  rw [decide_eq_true (HX.out.trans (head_l _ _))]
  have HL5 := Lib.hid (alike_ls ⟨m, rfl⟩ HL4.out)
  have HB5 := Lib.hid (below_drewn HB4.out m)
  clear HL4 HB4 HL3 HB3 hb
  generalize ((((w3.alloc (.cells #[.string ⟨#[97]⟩, .string ⟨#[98, 49]⟩] 9)).alloc (.cells #[.string ⟨#[99]⟩] 9)).alloc (.cells #[.int .i64 1, .slice (some ⟨w3.heap.size, 0, none⟩) 2 2, .int .i64 3, .slice (some ⟨w3.heap.size + 1, 0, none⟩) 1 1] 27)).drewN m) = w5 at *
  go_wp2_with fail
  refine (lWord_any w5 ⟨#[97, 49]⟩ (by decide)).mono ?_
  rintro e w6 ⟨rfl, rfl⟩
  rw [show wordB ⟨#[97, 49]⟩ = true by kernel_rfl]
  go_wp2_with fail
  refine (lWord_any w5 ⟨#[]⟩ (by decide)).mono ?_
  rintro e w6 ⟨rfl, rfl⟩
  rw [show wordB ⟨#[]⟩ = false by kernel_rfl]
  go_wp2_with fail
  refine (lWord_any w5 ⟨#[97, 32, 98]⟩ (by decide)).mono ?_
  rintro e w6 ⟨rfl, rfl⟩
  rw [show wordB ⟨#[97, 32, 98]⟩ = false by kernel_rfl]
  go_wp2_with fail
  have hpr : printL (xs.map Ln.bs) = [97, 32, 98, 49, 10, 99, 10] := by
    rw [bs_told (HX.out.trans (head_l undef undef))]; kernel_rfl
  refine (print_s w5 xs _ HL5.out (by have := HXL.out; omega) (by rw [hpr]; decide)).mono ?_
  rintro e w7 ⟨P, rfl, hP, hb⟩
  rw [hpr] at hP
  have hp : (P.toList == [97, 32, 98, 49, 10, 99, 10]) = true := by rw [hP]; kernel_rfl
  have HB6 := Lib.hid (HB5.out.trans (hb.mono HB5.out.size))
  clear hP hb hpr
  go_wp2_with fail
  go_ret
  exact ⟨rfl, HB6.out⟩
end Go.Proofs.YtpoihpehdlogbaaDoor
