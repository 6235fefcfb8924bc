/-
  Maps from texts in memory, read as functions, whatever their elements; the forms of lines, walked.
-/
import Derived.Test.YtckbdnkonccmiaaDoorLexB
import Derived.Maps.OwnSet
import Derived.StringKeys
import Derived.WalkKit
namespace Go.Proofs.YtckbdnkonccmiaaDoor
open Go.RowKit Go.Maps Go.WideMaps
abbrev heldR : Value → Option (DataW Value × List MemPlace) := fun v => some (.held v, [])
theorem keyedS : Keyed Tryd.prog 9 := string_keyed Tryd.underlying9
/-- block b is a map of at most N entries that reads as f; z: what one reads that is not there -/
def MapV (z : Value) (w : World) (b N : Nat) (f : ByteArray → Option Value) : Prop :=
  ∃ D : DataW Value, w.ownsMap Tryd.prog 9 heldR b N D ∧ ∀ k : ByteArray, k.size ≤ maxLen → Maps.has D (.string k.data.toList) = (f k).isSome ∧ D.atKey (.string k.data.toList) (.held z) = .held ((f k).getD z)
def updB (f : ByteArray → Option Value) (k : ByteArray) (u : Value) : ByteArray → Option Value := fun x => if x = k then some u else f x
section
variable {w w' : World} {b N : Nat} {z : Value} {f : ByteArray → Option Value}
theorem MapV.lt (h : MapV z w b N f) : b < w.heap.size := by
  obtain ⟨D, h1, h2⟩ := h
  exact h1.lt
theorem MapV.block (h : MapV z w b N f) (hb : w'.heap[b]? = w.heap[b]?) : MapV z w' b N f := by
  obtain ⟨D, ⟨es, clock, h1, h3⟩, h2⟩ := h
  exact ⟨D, ⟨es, clock, hb.trans h1, h3⟩, h2⟩
theorem MapV.below (h : MapV z w b N f) (hb : Below w.heap.size w w') : MapV z w' b N f := h.block (hb.block b h.lt)
theorem MapV.grown {row : Option Nat} (h : MapV z w b N f) (hg : w.grownBy w' row) (hr : some b ≠ row) : MapV z w' b N f := h.block (hg.block b h.lt hr)
theorem MapV.obj (h : MapV z w b N f) : ∃ es clock, w.heap[b]? = some (.map es clock) := by
  obtain ⟨D, ⟨es, clock, h1, _⟩, _⟩ := h
  exact ⟨es, clock, h1⟩
theorem MapV.made (z : Value) (w : World) : MapV z (w.alloc (.map #[] 0)) w.heap.size 0 (fun _ => none) :=
  ⟨.map [], World.ownsMap_made w _ _ _, fun _ _ => ⟨rfl, rfl⟩⟩
theorem MapV.mono (h : MapV z w b N f) {N' : Nat} (hN : N ≤ N') : MapV z w b N' f := by
  obtain ⟨D, h1, h2⟩ := h
  exact ⟨D, h1.mono hN, h2⟩
theorem MapV.look (h : MapV z w b N f) {t e : TypeId} (ht : Tryd.prog.underlying t = some (.map 9 e)) (hz : (zeroValue e).run Tryd.prog w = .ok z w) {k : ByteArray} (hk : k.size ≤ maxLen) :
    (Instr.lookup t (.map (some b)) (.string k) true).run Tryd.prog w = .ok (.tuple #[(f k).getD z, .bool (f k).isSome]) w := by
  obtain ⟨D, h1, h2⟩ := h
  obtain ⟨v, ps, hrun, hv⟩ := h1.look_ok keyedS ht hz (zd := .held z) (zp := []) rfl (keyOf_string_mk Tryd.underlying9 hk)
  rw [(h2 k hk).2] at hv
  simp only [Option.some.injEq, Prod.mk.injEq, DataW.held.injEq] at hv
  rw [hrun, (h2 k hk).1, hv.1]
theorem bytes_list_inj {x y : ByteArray} (h : x.data.toList = y.data.toList) : x = y := by
  cases x with | mk a => cases y with | mk c =>
  exact congrArg ByteArray.mk (Array.toList_inj.1 h)
theorem MapV.put (h : MapV z w b N f) {t e : TypeId} (ht : Tryd.prog.underlying t = some (.map 9 e)) (hN : N < maxLen) {k : ByteArray} (hk : k.size ≤ maxLen) (u : Value) :
    ∃ w', (Instr.mapUpdate t (.map (some b)) (.string k) u).run Tryd.prog w = .ok () w' ∧ MapV z w' b (N + 1) (updB f k u) ∧ w.grownBy w' (some b) := by
  obtain ⟨D, h1, h2⟩ := h
  obtain ⟨w', hrun, h3, h4⟩ := h1.update keyedS ht hN (keyOf_string_mk Tryd.underlying9 hk) (d := .held u) (ps := []) rfl
  have hm : IsMap D := h1.isMap
  have hkl : WideAt.IsKeyLit (.string k.data.toList) := trivial
  refine ⟨w', hrun, ⟨_, h3, fun x hx => ?_⟩, h4⟩
  by_cases e : x = k
  · subst e
    unfold updB
    rw [if_pos rfl]
    exact ⟨has_put_same hm hkl _, atKey_put_same hm hkl _ _⟩
  · unfold updB
    rw [if_neg e]
    have hne : (Lit.string x.data.toList) ≠ (Lit.string k.data.toList) := by intro h; injection h with h; exact e (bytes_list_inj h)
    rw [has_put_other hne, atKey_put_other hne]
    exact h2 x hx
end
section
variable (w : World) {ops : Array Oper} {rest : List Oper} {o : Oper} {a : Act} {Q : Exit → Act → World → Prop}
theorem wpList_put_at (hg : o.guard = none) (m x v : Operand) (t e : TypeId) (hop : o.op = Op.mapUpdate t m x v) (ht : Tryd.prog.underlying t = some (.map 9 e)) {z : Value} {b N : Nat} {f : ByteArray → Option Value} (hm : a.eval m = .map (some b)) (h : MapV z w b N f) (hN : N < maxLen) {k : ByteArray} {u : Value}
    (hx : a.eval x = .string k) (hv : a.eval v = u) (hk : k.size ≤ maxLen)
    (hK : ∀ w', MapV z w' b (N + 1) (updB f k u) → w.grownBy w' (some b) → wpList Tryd.prog ops Q rest (a.put o.dst undef) w') : wpList Tryd.prog ops Q (o :: rest) a w := by
  refine wpList_plain hg fun K' hK' => ?_
  obtain ⟨w', hrun, r1, r2⟩ := h.put ht hN hk u
  unfold Oper.wp
  simp [execOp, hop, hm, hx, hv, hrun, Result.andThen]
  exact hK' _ _ (hK w' r1 r2)
theorem wpList_insert_at (hg : o.guard = none) (m x v : Operand) (t e : TypeId) (hop : o.op = Op.insert t m x v) (ht : Tryd.prog.underlying t = some (.map 9 e)) {z : Value} {b N : Nat} {f : ByteArray → Option Value} (hm : a.eval m = .map (some b)) (h : MapV z w b N f) (hN : N < maxLen) {k : ByteArray} {u : Value}
    (hx : a.eval x = .string k) (hv : a.eval v = u) (hk : k.size ≤ maxLen)
    (hK : ∀ w', MapV z w' b (N + 1) (updB f k u) → w.grownBy w' (some b) → wpList Tryd.prog ops Q rest (a.put o.dst undef) w') : wpList Tryd.prog ops Q (o :: rest) a w := by
  refine wpList_plain hg fun K' hK' => ?_
  obtain ⟨w', hrun, r1, r2⟩ := h.put ht hN hk u
  unfold Oper.wp
  simp [execOp, hop, hm, hx, hv, hrun, Result.andThen]
  exact hK' _ _ (hK w' r1 r2)
end
/-! ### the forms of lines -/
def bWatch : ByteArray := ⟨#[119, 97, 116, 99, 104]⟩
def bKey : ByteArray := ⟨#[107, 101, 121]⟩
def bDevice : ByteArray := ⟨#[100, 101, 118, 105, 99, 101]⟩
def bPoint : ByteArray := ⟨#[112, 111, 105, 110, 116]⟩
def bCause : ByteArray := ⟨#[99, 97, 117, 115, 101]⟩
def bEffect : ByteArray := ⟨#[101, 102, 102, 101, 99, 116]⟩
def formV (a b : Int) (f : Nat) : Value := .agg #[.int .i64 a, .int .i64 b, .func (.func f) #[] #[]]
def formZ : Value := .agg #[.int .i64 0, .int .i64 0, .nilFunc]
def formsF : ByteArray → Option Value := updB (updB (updB (updB (updB (updB (fun _ => none) bWatch (formV 5 5 53)) bKey (formV 2 2 54)) bDevice (formV 4 4 55)) bPoint (formV 7 7 56)) bCause (formV 6 9 57)) bEffect (formV 6 13 58)
set_option maxHeartbeats 1000000 in
set_option maxRecDepth 100000 in
theorem forms_any (w : World) : Calls Tryd.prog 31 #[] w fun e w' => ∃ b, e = .returned (.map (some b)) ∧ MapV formZ w' b 6 formsF ∧ Below w.heap.size w w' := by
  have hmm := @run_makeMap Tryd.prog
  have HS : Hid (MapV formZ (w.alloc (.map #[] 0)) w.heap.size 0 (fun _ => none) ∧ Below w.heap.size w (w.alloc (.map #[] 0))) := Lib.hid ⟨MapV.made formZ w, (Below.refl _ _).alloc (Nat.le_refl _) _⟩
  go_enter Tryd.func31, Tryd.ntmps31
  go_wp2_with (((with_reducible show wpList _ _ _ (⟨_, .insert _ _ _ _, _, _, _, _⟩ :: _) _ _); refine wpList_insert_at _ rfl _ _ _ 67 96 rfl Tryd.underlying67 rfl HS.out.1 (by simp only [maxLen]; omega) rfl rfl (by decide) ?_; intro w1 hM hg; have HS := Lib.hid (And.intro hM (HS.out.2.grown hg (by have := HS.out.2.size; omega) (fun k hk => by injection hk with hk; omega))); clear hM hg))
  go_ret
  exact ⟨_, rfl, HS.out.1, HS.out.2⟩
end Go.Proofs.YtckbdnkonccmiaaDoor
