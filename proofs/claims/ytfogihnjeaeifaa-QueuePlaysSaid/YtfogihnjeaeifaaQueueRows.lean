/-
  Rows of numbers that a call made, beside a queue: what one does leaves the other alone.
-/
import Derived.Test.YtfogihnjeaeifaaQueueOps
namespace Go.Proofs.Ytfogihnjeaeifaa
open Go.Conc Go.RowKit Go.ChangeShapes Go.WideShapes
theorem int_info : (Try.prog.info? 3).map (fun i => (i.zero, i.size, i.bytes)) = some (some (.int .i64 0), 1, 8) := by kernel_rfl
theorem own_form {W : World} {base size n : Nat} {e : TypeId} {v : Value} {xs : List Value} (h : W.ownsRow base e size v n xs) : ∃ A c, v = .slice A n c := by
  rcases h.2 with ⟨rfl, rfl⟩ | ⟨g, cap, cur, rfl, _⟩
  · exact ⟨none, 0, rfl⟩
  · exact ⟨_, _, rfl⟩
theorem own_cap {W : World} {base size n c : Nat} {e : TypeId} {A : Option Addr} {xs : List Value} (h : W.ownsRow base e size (.slice A n c) n xs) : n ≤ c := by
  rcases h.2 with ⟨h1, h2⟩ | ⟨g, cap, cur, h1, _, _, h3, _⟩
  · injection h1 with _ h1 h4; omega
  · injection h1 with _ h1 h4; omega
theorem own_obj {w : World} {base size n k : Nat} {e : TypeId} {v : Value} {xs : List Value} (h : w.ownsRow base e size v n xs) (hk : v.ownBlock = some k) : ∃ cs, w.heap[k]? = some (Obj.cells cs e (0, 0)) := by
  rcases h.2 with ⟨rfl, _⟩ | ⟨g, cap, cur, rfl, _, hg, _⟩
  · simp [Value.ownBlock] at hk
  · simp [Value.ownBlock] at hk
    subst hk
    exact ⟨_, hg⟩
theorem own_cells {w w' : World} {base size n : Nat} {e : TypeId} {v : Value} {xs : List Value} (h : w.ownsRow base e size v n xs) (hc : Cells w w') : w'.ownsRow base e size v n xs := by
  refine ⟨h.1, ?_⟩
  rcases h.2 with hn | ⟨g, cap, cur, rfl, hb, hgg, rest⟩
  · exact .inl hn
  · exact .inr ⟨g, cap, cur, rfl, hb, (hc g _ _ _ hgg).trans hgg, rest⟩
/-- blocks of numbers, or of one other kind, alone may have turned -/
def Others (t : TypeId) (w w' : World) : Prop := ∀ (k : Nat) (x : Obj), w.heap[k]? = some x → (∀ cs z, x ≠ Obj.cells cs 3 z) → (∀ cs z, x ≠ Obj.cells cs t z) → w'.heap[k]? = some x
theorem Others.refl (t : TypeId) (w : World) : Others t w w := fun _ _ h _ _ => h
theorem Others.trans {t : TypeId} {w w1 w2 : World} (h : Others t w w1) (h' : Others t w1 w2) : Others t w w2 := fun k x hk a b => h' k x (h k x hk a b) a b
theorem Others.alloc (t : TypeId) (w : World) (o : Obj) : Others t w (w.alloc o) := fun k x hk _ _ => by
  rw [Below.heap_alloc w o k (Array.getElem?_eq_some_iff.1 hk).1]; exact hk
theorem Others.drew (t : TypeId) (w : World) : Others t w w.drew := fun _ _ h _ _ => h
theorem Others.grown {t : TypeId} {w w' : World} {base size n : Nat} {v : Value} {xs : List Value} (ho : w.ownsRow base 3 size v n xs) (hg : w.grownBy w' v.ownBlock) : Others t w w' := by
  intro k x hk h3 _
  rw [hg.block k (Array.getElem?_eq_some_iff.1 hk).1 ?_]
  · exact hk
  · intro e
    obtain ⟨cs, hcs⟩ := own_obj ho e.symm
    rw [hk] at hcs
    injection hcs with hcs
    exact h3 cs (0, 0) hcs
theorem Others.set_ {t : TypeId} {w : World} {g : Nat} {cs : Array Value} (h : w.heap[g]? = some (Obj.cells cs t (0, 0))) (i : Nat) (u : Value) : Others t w (w.setCell ⟨g, i, none⟩ u) := by
  intro k x hk _ h4
  rw [Below.heap_setCell w ⟨g, i, none⟩ u k ?_]
  · exact hk
  · rintro rfl
    rw [h] at hk
    injection hk with hk
    exact h4 cs (0, 0) hk.symm
theorem QAt.others {B t t' q cap : Nat} {U O : List Value} {w w' : World} (h : QAt B t w q cap U O) (ho : Others t' w w') (h3 : t ≠ 3) (h4 : t ≠ t') : QAt B t w' q cap U O := by
  obtain ⟨a, b, hq, ha, hb', hab, hqa, hqb, hx, ⟨s1, r1, hA⟩, ⟨s2, r2, hO⟩⟩ := h
  refine ⟨a, b, hq, ha, hb', hab, hqa, hqb, ho q _ hx ?_ ?_, ⟨s1, r1, ho a _ hA ?_ ?_⟩, ⟨s2, r2, ho b _ hO ?_ ?_⟩⟩
  · intro cs z e; injection e with _ e; exact h3 e
  · intro cs z e; injection e with _ e; exact h4 e
  · intro cs z e; cases e
  · intro cs z e; cases e
  · intro cs z e; cases e
  · intro cs z e; cases e
theorem QI.others {B q n t : Nat} {s : List Int × List Int} {w w' : World} (h : QI B w q n s) (ho : Others t w w') (h4 : (48 : TypeId) ≠ t) : QI B w' q n s := QAt.others h ho (by decide) h4
theorem QI.drew {B q n : Nat} {s : List Int × List Int} {w : World} (h : QI B w q n s) : QI B w.drew q n s := QAt.same h rfl
theorem one_nums (l : List Int) : ∀ u ∈ l.map nV, u.oneCell' = true := by
  intro u hu
  obtain ⟨x, _, rfl⟩ := List.mem_map.1 hu
  rfl
theorem lit_nil (w : World) (g base : Nat) (hg : w.heap.size = g) (hb : base ≤ g) : (w.alloc (.cells #[] 3)).ownsRow base 3 1 (.slice (some ⟨g, 0, none⟩) 0 0) 0 [] := by
  subst hg; exact World.ownsRow_lit w #[] 0 hb (by simp [maxLen]) rfl
theorem reads_one (w : World) (g : Nat) (hg : w.heap.size = g) (x : Int) : Words.Reads (w.alloc (.cells #[.int .i64 x] 3)) (g + 1) 1 (some ⟨g, 0, none⟩) 1 [nV x] := by
  subst hg
  exact LawFrame.reads_block (xs := [nV x]) (t := 3) (heap_alloc_new w _) (by omega) rfl
theorem own_ne_new {w : World} {base size n : Nat} {e : TypeId} {v : Value} {xs : List Value} (h : w.ownsRow base e size v n xs) : v.ownBlock ≠ some w.heap.size := by
  intro hk
  have := (h.lt _ hk).2
  omega
theorem own_apart {w : World} {base' size' n' : Nat} {e' : TypeId} {v v2 v' : Value} {ys : List Value} (h2 : w.ownsRow base' e' size' v2 n' ys)
    (hne : v.ownBlock = none ∨ v.ownBlock ≠ v2.ownBlock) (hat : v'.ownBlock = v.ownBlock ∨ v'.ownBlock = some w.heap.size) : v'.ownBlock = none ∨ v'.ownBlock ≠ v2.ownBlock := by
  rcases hat with e1 | e1
  · rw [e1]; exact hne
  · right
    rw [e1]
    exact Ne.symm (own_ne_new h2)
theorem own_flip {v v' : Value} (h : v.ownBlock = none ∨ v.ownBlock ≠ v'.ownBlock) : v'.ownBlock = none ∨ v'.ownBlock ≠ v.ownBlock := by
  rcases h with h | h
  · rw [h]
    rcases v'.ownBlock with _ | k
    · exact .inl rfl
    · exact .inr (by simp)
  · exact .inr (Ne.symm h)
end Go.Proofs.Ytfogihnjeaeifaa
