/-
  THE WALKS of whole: a number's numeral.
-/
import Derived.Test.YtckbdnkonccmiaaDoorMatRdr
import Derived.Lib.ItoaLen
namespace Go.Proofs.YtckbdnkonccmiaaDoor
open Go.RowKit
/-- the table of tens lies as it was laid -/
def Tab10 (w : World) : Prop := Lib.TabIs Tryd.prog w ("internal/strconv.uint64pow10") .u64 Lib.pow10Tab
theorem tab10_named : ∃ g, Tryd.prog.globalNamed ("internal/strconv.uint64pow10") = some g := by
  cases e : Tryd.prog.globalNamed ("internal/strconv.uint64pow10") with
  | some g => exact ⟨g, rfl⟩
  | none => exact absurd (show (Tryd.prog.globalNamed ("internal/strconv.uint64pow10")).isSome = true by kernel_rfl) (by rw [e]; decide)
theorem Tab10.below {w w' : World} {B : Nat} (h : Tab10 w) (hb : Below B w w') (hB : w.heap.size ≤ B) : Tab10 w' := by
  obtain ⟨g, hg⟩ := tab10_named
  unfold Tab10 Lib.TabIs World.var? at h ⊢
  rw [hg] at h ⊢
  simp only [Option.bind_some] at h ⊢
  have hlt : g < w.heap.size := by
    rcases Nat.lt_or_ge g w.heap.size with h' | h'
    · exact h'
    · rw [Array.getElem?_eq_none h'] at h; cases h
  rw [hb.block g (by omega)]
  exact h
theorem Tab10.grown {w w' : World} (h : Tab10 w) (hg : w.grownBy w' none) : Tab10 w' := h.below (below_grown hg) (Nat.le_refl _)
theorem grown_grow (w : World) (k : Nat) (os : Array Obj) : w.grownBy (Go.Sort.grow (w.drewN k) os) none := by
  refine ⟨rfl, rfl, rfl, ?_, fun i hi _ => ?_⟩
  · show w.heap.size ≤ (w.heap ++ os).size
    simp
  · show (w.heap ++ os)[i]? = w.heap[i]?
    exact Array.getElem?_append_left hi
def itoB (n : Int) : ByteArray := ⟨(Lib.itoa n).toArray⟩
def WholeIs (n : Int) (w : World) (e : Ending) (w' : World) : Prop := e = .returned (.string (itoB n)) ∧ w.grownBy w' none
set_option maxRecDepth 100000 in
theorem whole_any (w : World) (n : Int) (h0 : -9223372036854775808 ≤ n) (h1 : n ≤ 9223372036854775807) (ht : Tab10 w) : Calls Tryd.prog 20 #[.int .i64 n] w (WholeIs n w) := by
  have hc := Tryd.strconv_FormatInt_10 n h0 h1 w ht
  have HC := Lib.hid hc
  clear hc ht h0 h1
  go_enter Tryd.func20, Tryd.ntmps20
  go_wp2_with fail
  refine HC.out.mono ?_
  rintro e w1 ⟨rfl, k, os, rfl⟩
  go_wp2_with fail
  go_ret
  exact ⟨rfl, grown_grow w k os⟩
set_option maxRecDepth 100000 in
theorem whole64_any (w : World) (n : Int) (h0 : -9223372036854775808 ≤ n) (h1 : n ≤ 9223372036854775807) (ht : Tab10 w) : Calls Tryd.prog 19 #[.int .i64 n] w (WholeIs n w) := by
  have hc := Tryd.strconv_FormatInt_10 n h0 h1 w ht
  have HC := Lib.hid hc
  clear hc ht h0 h1
  go_enter Tryd.func19, Tryd.ntmps19
  go_wp2_with fail
  refine HC.out.mono ?_
  rintro e w1 ⟨rfl, k, os, rfl⟩
  go_wp2_with fail
  go_ret
  exact ⟨rfl, grown_grow w k os⟩
end Go.Proofs.YtckbdnkonccmiaaDoor
