/-
  A map of numbers in memory, read as a function: look up, store, delete.
-/
import Derived.Test.YtcaobjmngdlklaaLatchPlain
import Derived.Test.YtcaobjmngdlklaaRows
import Derived.Maps.OwnSet
import Derived.WalkKit
namespace Go.Proofs.Ytcaobjmngdlklaa
open Go.RowKit Go.Maps
theorem law3 : Keyed Try.prog 3 := int_keyed Try.underlying3
theorem zero3 (w : World) : (zeroValue 3).run Try.prog w = .ok (.int .i64 0) w := by kernel_rfl
/-- a number that an int holds -/
def Fit64 (x : Int) : Prop := -9223372036854775808 ≤ x ∧ x ≤ 9223372036854775807
theorem wf64 {x : Int} (h : Fit64 x) : (Lit.int .i64 x).wf = true := by
  obtain ⟨h1, h2⟩ := h
  simp [Lit.wf, IntKind.min, IntKind.max, IntKind.signed, IntKind.bits]
  omega
abbrev iL (x : Int) : DataW Unit := .lit (.int .i64 x)
/-- block m is a map of at most N entries that reads as f -/
def MapAt (w : World) (m N : Nat) (f : Int → Option Int) : Prop :=
  ∃ D : DataW Unit, w.ownsMap Try.prog 3 (plainElem Try.prog 3) m N D ∧ ∀ k, Fit64 k → Maps.has D (.int .i64 k) = (f k).isSome ∧ D.atKey (.int .i64 k) (iL 0) = iL ((f k).getD 0)
section
variable {w w' : World} {m N : Nat} {f : Int → Option Int}
theorem MapAt.mono (h : MapAt w m N f) {N' : Nat} (hN : N ≤ N') : MapAt w m N' f := by
  obtain ⟨D, h1, h2⟩ := h
  exact ⟨D, h1.mono hN, h2⟩
theorem MapAt.lt (h : MapAt w m N f) : m < w.heap.size := by
  obtain ⟨D, h1, h2⟩ := h
  exact h1.lt
theorem MapAt.block (h : MapAt w m N f) (hb : w'.heap[m]? = w.heap[m]?) : MapAt w' m N f := by
  obtain ⟨D, ⟨es, clock, h1, h3⟩, h2⟩ := h
  exact ⟨D, ⟨es, clock, hb.trans h1, h3⟩, h2⟩
theorem MapAt.obj (h : MapAt w m N f) : ∃ es clock, w.heap[m]? = some (.map es clock) := by
  obtain ⟨D, ⟨es, clock, h1, _⟩, _⟩ := h
  exact ⟨es, clock, h1⟩
theorem MapAt.made (w : World) : MapAt (w.alloc (.map #[] 0)) w.heap.size 0 (fun _ => none) :=
  ⟨.map [], World.ownsMap_made w _ _ _, fun _ _ => ⟨rfl, rfl⟩⟩
theorem MapAt.look (h : MapAt w m N f) {k : Int} (hk : Fit64 k) : (Instr.lookup 46 (.map (some m)) (.int .i64 k) false).run Try.prog w = .ok (.int .i64 ((f k).getD 0)) w := by
  obtain ⟨D, h1, h2⟩ := h
  obtain ⟨c, hrun, hat, _⟩ := h1.lookup_int law3 Try.underlying46 Try.underlying3 (zero3 w) (keyOf_int_mk Try.underlying3 (wf64 hk))
  rw [(h2 k hk).2] at hat
  injection hat with hat
  injection hat with _ hat
  rw [hrun, ← hat]
theorem MapAt.look_ok (h : MapAt w m N f) {k : Int} (hk : Fit64 k) : (Instr.lookup 46 (.map (some m)) (.int .i64 k) true).run Try.prog w = .ok (.tuple #[.int .i64 ((f k).getD 0), .bool (f k).isSome]) w := by
  obtain ⟨D, h1, h2⟩ := h
  obtain ⟨v, ps, hrun, hv⟩ := h1.look_ok law3 Try.underlying46 (zero3 w) (plainElem_int Try.underlying3 (by decide)) (keyOf_int_mk Try.underlying3 (wf64 hk))
  obtain ⟨c, rfl, hc, _⟩ := plainElem_int_inv Try.underlying3 hv
  have e := congrArg Prod.fst hc
  simp only at e
  rw [(h2 k hk).2] at e
  injection e with e
  injection e with _ e
  rw [hrun, (h2 k hk).1, ← e]
theorem MapAt.put (h : MapAt w m N f) (hN : N < maxLen) {k u : Int} (hk : Fit64 k) (hu : Fit64 u) :
    ∃ w', (Instr.mapUpdate 46 (.map (some m)) (.int .i64 k) (.int .i64 u)).run Try.prog w = .ok () w' ∧ MapAt w' m (N + 1) (upd f k (some u)) ∧ w.grownBy w' (some m) := by
  obtain ⟨D, h1, h2⟩ := h
  obtain ⟨w', hrun, h3, h4⟩ := h1.update law3 Try.underlying46 hN (keyOf_int_mk Try.underlying3 (wf64 hk)) (plainElem_int (H := Unit) Try.underlying3 (wf64 hu))
  have hm : IsMap D := h1.isMap
  have hkl : WideAt.IsKeyLit (.int .i64 k) := trivial
  refine ⟨w', hrun, ⟨_, h3, fun x hx => ?_⟩, h4⟩
  by_cases e : x = k
  · subst e
    rw [upd_same]
    exact ⟨has_put_same hm hkl _, atKey_put_same hm hkl _ _⟩
  · rw [upd_ne _ _ _ e]
    have hne : (Lit.int .i64 x) ≠ (Lit.int .i64 k) := by intro h; injection h with _ h; exact e h
    rw [has_put_other hne, atKey_put_other hne]
    exact h2 x hx
theorem MapAt.del (h : MapAt w m N f) {k : Int} (hk : Fit64 k) (ty : TypeId) :
    ∃ w', (Builtin.delete_ #[46, 3] ty #[.map (some m), .int .i64 k]).run Try.prog w = .ok (.tuple #[]) w' ∧ MapAt w' m N (upd f k none) ∧ w.grownBy w' (some m) := by
  obtain ⟨D, h1, h2⟩ := h
  obtain ⟨w', hrun, h3, h4⟩ := h1.drop law3 Try.underlying46 (keyOf_int_mk Try.underlying3 (wf64 hk)) ty
  refine ⟨w', hrun, ⟨_, h3, fun x hx => ?_⟩, h4.grown⟩
  by_cases e : x = k
  · subst e
    rw [upd_same]
    exact ⟨has_del_same, atKey_del_same _⟩
  · rw [upd_ne _ _ _ e]
    have hne : (Lit.int .i64 x) ≠ (Lit.int .i64 k) := by intro h; injection h with _ h; exact e h
    rw [has_del_other hne, atKey_del_other hne]
    exact h2 x hx
end
section
variable (w : World) {ops : Array Oper} {rest : List Oper} {o : Oper} {a : Act} {Q : Exit → Act → World → Prop}
theorem wpList_put_at (hg : o.guard = none) (m x v : Operand) (hop : o.op = Op.mapUpdate 46 m x v) {b N : Nat} {f : Int → Option Int} (hm : a.eval m = .map (some b)) (h : MapAt w b N f) (hN : N < maxLen) {k u : Int}
    (hx : a.eval x = .int .i64 k) (hv : a.eval v = .int .i64 u) (hk : Fit64 k) (hu : Fit64 u)
    (hK : ∀ w', MapAt w' b (N + 1) (upd f k (some u)) → w.grownBy w' (some b) → wpList Try.prog ops Q rest (a.put o.dst undef) w') : wpList Try.prog ops Q (o :: rest) a w := by
  refine wpList_plain hg fun K' hK' => ?_
  obtain ⟨w', hrun, r1, r2⟩ := h.put hN hk hu
  unfold Oper.wp
  simp [execOp, hop, hm, hx, hv, hrun, Result.andThen]
  exact hK' _ _ (hK w' r1 r2)
theorem wpList_del_at (hg : o.guard = none) (m x : Operand) (hop : o.op = Op.call { callee := Callee.builtin Builtin.delete, args := #[m, x], argTypes := #[46, 3] }) {b N : Nat} {f : Int → Option Int} (hm : a.eval m = .map (some b)) (h : MapAt w b N f) {k : Int}
    (hx : a.eval x = .int .i64 k) (hk : Fit64 k)
    (hK : ∀ w', MapAt w' b N (upd f k none) → w.grownBy w' (some b) → wpList Try.prog ops Q rest (a.put o.dst (.tuple #[])) w') : wpList Try.prog ops Q (o :: rest) a w := by
  refine wpList_plain hg fun K' hK' => ?_
  obtain ⟨w', hrun, r1, r2⟩ := h.del hk o.type
  unfold Oper.wp
  simp [execOp, hop, resolve, invoke, builtin, hm, hx, hrun, Result.andThen]
  exact hK' _ _ (hK w' r1 r2)
end
end Go.Proofs.Ytcaobjmngdlklaa
