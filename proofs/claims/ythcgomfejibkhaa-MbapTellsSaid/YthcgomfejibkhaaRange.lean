/-
  A RANGE OVER A FUNCTION whose iterator may write, behind its last round, to a variable of the caller's; the body goes on in every round. No program is in sight.
-/
import Derived.RangeFuncNested
import Derived.RangeFuncBound
import Derived.RangeFuncLeaves
import Derived.RangeFuncFrom
import Derived.RangeFuncWrites
namespace Go.Proofs.Ythcgomfejibkhaa.Ranged
open Go.RowKit

theorem grown_none_trans {a b c : World} (h : a.grownBy b none) (k : b.grownBy c none) : a.grownBy c none :=
  ⟨k.os.trans h.os, k.tape.trans h.tape, k.output.trans h.output, Nat.le_trans h.size k.size, fun i hi hne => (k.block i (Nat.lt_of_lt_of_le hi h.size) hne).trans (h.block i hi hne)⟩
/-- what an iterator does with every loop that goes on: the rounds, then what it writes last. Ok: what is known of what is handed to a round; Kp: what a round must keep; E: what the iterator writes last -/
def Iter {α : Type} (n : Nat) (P : Program) (gf : Nat) (lb : Array Value) (encs : α → Array Value) (Kp : World → World → Prop) (Ok : List α → α → World → Prop) (E : List α → World → World → Prop) (w : World) : Prop :=
  ∀ (l : Nat) (J : List α → World → Prop) (W : World), w.grownBy W none → (∀ s A B, J s A → A.grownBy B none → J s B) →
    (∀ pre x W1, J pre W1 → Ok pre x W1 → YieldAt Fence.wide (n - 1) P l (encs x) W1 fun e W' => e = .returned (.bool true) ∧ J (pre ++ [x]) W' ∧ Kp W1 W') → J [] W →
    CallsIn Fence.wide n P gf (#[.func (.yield l) #[] #[]] ++ lb) W fun e W' => (∃ v, e = .returned v) ∧ ∃ xs Wx, J xs Wx ∧ E xs Wx W'
/-- the body goes on -/
def goesOn {α : Type} (B : Nat) (Kp : World → World → Prop) (I : List α → World → Prop) (xs : List α) (W : World) : Exit → Act → World → Prop
  | .normal, _, W' => KeepsFrom B W W' ∧ Kp W W' ∧ I xs W'
  | _, _, _ => False

section
variable {n : Nat} {P : Program} {w : World}
theorem wp_range {α : Type} {g : Operand} {ps : Array Tmp} {assign body : Code} {Q : Exit → Act → World → Prop} {a : Act}
    {gf : Nat} {lb : Array Value} (hg : a.eval g = .func (.func gf) #[] lb) (eg : ∀ args w, (callFunc gf args).run P w = .ok (.enter gf args) w)
    {encs : α → Array Value} {Kp : World → World → Prop} {Ok : List α → α → World → Prop} {E : List α → World → World → Prop} (hit : Iter (n - 1) P gf lb encs Kp Ok E w) (hn : 1 ≤ n)
    (hKt : ∀ {A B C : World}, Kp A B → Kp B C → Kp A C) (hKb : ∀ (W : World) (l : Nat) (o' : Obj), w.heap.size ≤ l → Kp W (W.putObj l o')) (hps : ∀ x, (encs x).size = ps.size)
    (I R : List α → World → Prop) (hI : OwnFrom w.heap.size I) (hR : OwnFrom w.heap.size R) (Ax : List α → α → Act → World → Prop) (hAx : ∀ pre x a', OwnFrom w.heap.size (fun (_ : Unit) W => Ax pre x a' W)) (h0 : I [] w)
    (hE : ∀ xs Wx W', I xs Wx → E xs Wx W' → KeepsFrom w.heap.size Wx W' ∧ R xs W')
    (hassign : ∀ (l : Nat) (pre : List α) (x : α) (W : World) (K : Act → World → Prop), w.heap.size ≤ W.heap.size → I pre W → Ok pre x W → (∀ a' W', KeepsFrom w.heap.size W W' → Kp W W' → I pre W' → Ax pre x a' W' → K a' W') →
      assign.wpIn (Fence.wide.inRound l) (n - 1 - 1) P (Exit.then K (fun _ _ _ => False)) { tmps := (ps.zip (encs x)).foldl (fun t (p, v) => t.setIfInBounds p v) a.tmps, defers := [] } W)
    (hbody : ∀ (l : Nat) (pre : List α) (x : α) (a' : Act) (W : World), w.heap.size ≤ W.heap.size → I pre W → Ax pre x a' W → body.wpIn (Fence.wide.inRound l) (n - 1 - 1) P (goesOn w.heap.size Kp I (pre ++ [x]) W) a' W)
    (hdone : ∀ (D : Nat) (xs : List α) (W : World), w.heap.size ≤ D → R xs W → W.heap[D]? = some (.deferred (some [])) → Q .normal { a with defers := { target := .collected D, args := #[] } :: a.defers } W) :
    (Code.rangeFunc g ps assign body).wpIn Fence.wide n P Q a w := by
  refine wpIn_rangeFunc fun fn hfn => ?_
  obtain ⟨rec, hrec⟩ : ∃ rec : LoopState → Option Code → Loop, rec = fun st pe => { state := st, pending := pe, fn, tmps := a.tmps, params := ps, assign, body, defers := w.heap.size } := ⟨_, rfl⟩
  have hL : ((w.alloc (.deferred (some []))).alloc (.loop (rec .ready none))).heap[w.heap.size + 1]? = some (.loop (rec .ready none)) := by
    have := World.alloc_heap_new (w.alloc (.deferred (some []))) (.loop (rec .ready none))
    rwa [World.size_alloc] at this
  have hD : ((w.alloc (.deferred (some []))).alloc (.loop (rec .ready none))).heap[w.heap.size]? = some (.deferred (some [])) :=
    (Below.heap_alloc _ _ _ (by simp)).trans (World.alloc_heap_new w _)
  have hI1 : I [] ((w.alloc (.deferred (some []))).alloc (.loop (rec .ready none))) := hI.alloc _ (hI.alloc _ h0)
  have hg1 : w.grownBy ((w.alloc (.deferred (some []))).alloc (.loop (rec .ready none))) none := grown_none_trans (World.grownBy_alloc w _ none) (World.grownBy_alloc _ _ none)
  have hent : (Instr.enterLoop fn a.tmps ps assign body Fence.wide.round).run P w = .ok (w.heap.size + 1, [{ target := .collected w.heap.size, args := #[] }]) ((w.alloc (.deferred (some []))).alloc (.loop (rec .ready none))) := by
    rw [hrec]; exact run_enterLoop_outer _ _ _ _ _
  generalize (w.alloc (.deferred (some []))).alloc (.loop (rec .ready none)) = W1 at *
  refine ⟨w.heap.size + 1, _, W1, { target := .fn (.func gf) lb, args := #[.func (.yield (w.heap.size + 1)) #[] #[]] }, W1, gf, #[.func (.yield (w.heap.size + 1)) #[] #[]] ++ lb, W1, hent, ?_, fun _ _ => trivial, ?_, fun _ => hn, ?_⟩
  · simp only [resolve, hg]
    simp [go_sem]
  · simp [invoke, go_sem, eg]
  -- what stands between two rounds: the body's own, and the two blocks of the loop
  refine (hit (w.heap.size + 1) (fun pre W => I pre W ∧ W.heap[w.heap.size + 1]? = some (.loop (rec .ready none)) ∧ W.heap[w.heap.size]? = some (.deferred (some []))) W1 hg1 ?_ ?_ ⟨hI1, hL, hD⟩).mono ?_
  · rintro s A B ⟨h1, h2, h3⟩ hgr
    exact ⟨hI s A B none h1 hgr (fun r e => by cases e), (hgr.block _ (Array.getElem?_eq_some_iff.1 h2).1 (by simp)).trans h2, (hgr.block _ (Array.getElem?_eq_some_iff.1 h3).1 (by simp)).trans h3⟩
  · rintro pre x W ⟨hi, hl, hk⟩ hok
    have hy := run_yield (P := P) (args := encs x) hl (by rw [hrec]; exact hps x)
    rw [hrec] at hy
    have hsz : w.heap.size ≤ W.heap.size := by have := (Array.getElem?_eq_some_iff.1 hk).1; omega
    refine ⟨fn, _, assign, body, hy, roundIn_of_wpIn hfn (hassign _ pre x W _ hsz hi hok ?_)⟩
    clear hy
    intro a' Wa hka hkpa hia hax
    have hl1 := hka.same _ _ (Nat.le_succ _) hl rfl
    have hk1 := hka.same _ _ (Nat.le_refl _) hk rfl
    have hlt : w.heap.size + 1 < Wa.heap.size := (Array.getElem?_eq_some_iff.1 hl1).1
    refine ⟨_, run_beginRound hl1 (by rw [hrec]), ?_⟩
    have hl2 : (Wa.putObj (w.heap.size + 1) (.loop { rec .ready none with state := .busy })).heap[w.heap.size + 1]? = some (.loop { rec .ready none with state := .busy }) := World.putObj_heap_same hlt
    have hk2 : (Wa.putObj (w.heap.size + 1) (.loop { rec .ready none with state := .busy })).heap[w.heap.size]? = some (.deferred (some [])) := (World.putObj_heap_other (by omega)).trans hk1
    refine wpIn_mono (hbody _ pre x a' _ (by simp [World.putObj]; omega) (hI.putObj _ hia (by omega) hl1 rfl) ((hAx pre x a').putObj (s := ()) _ hax (by omega) hl1 rfl)) ?_
    rintro e a3 W3 hp
    cases e with
    | normal =>
      obtain ⟨hk3, hkp3, hi3⟩ := hp
      have hl3 := hk3.same _ _ (by omega) hl2 rfl
      have hd3 := hk3.same _ _ (Nat.le_refl _) hk2 rfl
      have hr := run_endRound (P := P) none hl3
      rw [hrec] at hr
      refine ⟨_, _, hr, rfl, ⟨hI.putObj _ hi3 (by omega) hl3 rfl, ?_, (World.putObj_heap_other (by omega)).trans hd3⟩, hKt hkpa (hKt (hKb _ _ _ (by omega)) (hKt hkp3 (hKb _ _ _ (by omega))))⟩
      rw [hrec]
      exact World.putObj_heap_same (Array.getElem?_eq_some_iff.1 hl3).1
    | ret => exact hp.elim
    | exit id => exact hp.elim
    | goto t => exact hp.elim
    | panic ch => exact hp.elim
    | outgrown => exact hp.elim
  · rintro e W2 ⟨⟨v, rfl⟩, xs, Wx, ⟨hi, hl, hk⟩, he⟩
    obtain ⟨hkf, hr⟩ := hE _ _ _ hi he
    have hl2 := hkf.same _ _ (Nat.le_succ _) hl rfl
    have hk2 := hkf.same _ _ (Nat.le_refl _) hk rfl
    have hend := run_endLoop (P := P) hl2 (by rw [hrec]; simp)
    rw [hrec] at hend
    exact ⟨none, _, hend, hdone _ xs _ (Nat.le_refl _) (hR.putObj _ hr (by omega) hl2 rfl) ((World.putObj_heap_other (by omega)).trans hk2)⟩
end
end Go.Proofs.Ythcgomfejibkhaa.Ranged
