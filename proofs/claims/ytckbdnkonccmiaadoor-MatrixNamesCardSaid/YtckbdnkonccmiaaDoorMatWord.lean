/-
  THE WALKS of the reader's small functions: the next word, a number, how a lamp goes, names.
-/
import Derived.Test.YtckbdnkonccmiaaDoorMatRdr
namespace Go.Proofs.YtckbdnkonccmiaaDoor
open Go.RowKit
def noW : ByteArray := ByteArray.mk #[]
/-- the next word, and what is left -/
def wordF (ls : List ByteArray) (wr : Bool) : ByteArray × List ByteArray := if wr = true then (noW, ls) else match ls with | [] => (noW, []) | x :: t => (x, t)
set_option maxHeartbeats 1000000 in
set_option maxRecDepth 100000 in
theorem word_any (c : RC) (ls : List ByteArray) (wr un : Bool) (w : World) (h : RS c ls wr un w) (hl : ls.length ≤ 1000000) :
    Calls Tryd.prog 70 #[.pointer (some ⟨c.g, 12, none⟩)] w fun e w' => e = .returned (.string (wordF ls wr).1) ∧ RT c (wordF ls wr).2 wr un w w' := by
  obtain ⟨vl, h⟩ := h
  have z13 : w.cell? ⟨c.g, 13, none⟩ = some (.bool wr) := h.cell 13
  cases wr with
  | true =>
    have HR := Lib.hid h
    clear h
    go_enter Tryd.func70, Tryd.ntmps70
    go_wp2_with fail
    go_ret
    exact ⟨rfl, ⟨_, HR.out⟩, grown_refl _ _⟩
  | false =>
  have z12 : w.cell? ⟨c.g, 12, none⟩ = some vl := h.cell 12
  have f12 : w.frozen? ⟨c.g, 12, none⟩ = false := h.free 12
  obtain ⟨A, c, e, hc, hx⟩ := id h.left
  subst e
  cases ls with
  | nil =>
    have HR := Lib.hid h
    clear h hx
    go_enter Tryd.func70, Tryd.ntmps70
    go_wp2_with fail
    go_ret
    exact ⟨rfl, ⟨_, HR.out⟩, grown_refl _ _⟩
  | cons x t =>
    obtain ⟨b, off, hA, hcell⟩ := one_at h.strs (k := 0) (x := x) rfl
    subst hA
    have y0 := hcell _ rfl
    simp only [Nat.add_zero] at y0
    have HR := Lib.hid h
    simp only [List.length_cons] at hc hl z12
    have ht := strs_tail h.left
    have HT := Lib.hid ht
    clear h hx hcell ht
    obtain ⟨n, hn⟩ : ∃ n, n = t.length + 1 := ⟨_, rfl⟩
    rw [← hn] at hc hl z12
    have HN := Lib.hid hn
    have hn1 : ((n : Int) == 0) = false := by rw [beq_eq_false_iff_ne]; omega
    have hn2 : (0 : Int) < (n : Int) := by omega
    have hn3 : (1 : Int) ≤ (n : Int) := by omega
    clear hn
    by_cases hc1 : c = 1
    · have HT0 := Lib.hid (show t = [] by have := HN.out; exact List.length_eq_zero_iff.1 (by omega))
      subst hc1
      obtain rfl : n = 1 := by omega
      go_enter Tryd.func70, Tryd.ntmps70
      go_wp2_with fail
      go_ret
      refine ⟨rfl, ⟨_, HR.out.store (vl' := .slice (some ⟨b, off, none⟩) 0 0) 12 _ rfl ?_⟩, grown_set _ _ _ _⟩
      rw [show (wordF (x :: t) false).2 = [] by rw [HT0.out]; rfl]
      exact strs_none
    · have hc2 : 1 < c := by omega
      go_enter Tryd.func70, Tryd.ntmps70
      go_wp2_with fail
      go_ret
      refine ⟨rfl, ⟨_, HR.out.store (vl' := .slice (some ⟨b, off + 1, none⟩) (n - 1) (c - 1)) 12 _ rfl ?_⟩, grown_set _ _ _ _⟩
      rw [show n - 1 = t.length by have := HN.out; omega]
      exact HT.out
end Go.Proofs.YtckbdnkonccmiaaDoor
