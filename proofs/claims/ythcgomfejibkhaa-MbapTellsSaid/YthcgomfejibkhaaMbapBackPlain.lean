/-
  PLAIN LAWS: what is put is cut to the same; and words for two rows of the call's own.
-/
import Derived.Test.YthcgomfejibkhaaMbapCutIs
namespace Go.Proofs.Ythcgomfejibkhaa
open Go.RowKit Mbap

/-- bytes that are gathered -/
def Acc (W2 W : World) (xs : List UInt8) (v : Value) : Prop := W.ownsRow W2.heap.size 5 1 v xs.length (xs.map bV) ∧ Below W2.heap.size W2 W
theorem Acc.start (W : World) : Acc W W [] (.slice none 0 0) := ⟨World.ownsRow_nil _ _ _ _, Below.refl _ _⟩
theorem Acc.below {W2 W W' : World} {xs : List UInt8} {v : Value} (h : Acc W2 W xs v) (hb : Below W.heap.size W W') : Acc W2 W' xs v :=
  ⟨h.1.kept (row := none) (grown_of_below hb) (by rcases hv : v.ownBlock with _ | g <;> simp), h.2.trans (hb.mono h.2.size)⟩
theorem Acc.more {W2 W W' : World} {xs ys : List UInt8} {v v' : Value} (h : Acc W2 W xs v) (ho : W'.ownsRow W2.heap.size 5 1 v' (xs.length + ys.length) (xs.map bV ++ ys.map bV)) (hg : W.grownBy W' v.ownBlock) : Acc W2 W' (xs ++ ys) v' :=
  ⟨by rw [List.length_append, List.map_append]; exact ho, h.2.grown hg h.2.size (fun k hk => (h.1.lt k hk).1)⟩
theorem Acc.bytes {W2 W : World} {xs : List UInt8} {v : Value} (h : Acc W2 W xs v) : BytesAt W xs v := BytesAt.of_own h.1
/-- two rows of elements of different types lie apart -/
theorem own_ne {W : World} {base base' size size' n n' : Nat} {e e' : TypeId} {v v' : Value} {xs xs' : List Value} (h : W.ownsRow base e size v n xs) (h' : W.ownsRow base' e' size' v' n' xs') (hne : e ≠ e') : v.ownBlock = none ∨ v.ownBlock ≠ v'.ownBlock := by
  rcases h.2 with ⟨rfl, _⟩ | ⟨g, cap, cur, rfl, _, hg, _⟩
  · exact .inl rfl
  · refine .inr (fun ee => ?_)
    rcases h'.2 with ⟨rfl, _⟩ | ⟨g', cap', cur', rfl, _, hg', _⟩
    · simp [Value.ownBlock] at ee
    · simp only [Value.ownBlock, Option.some.injEq] at ee
      subst ee
      rw [hg] at hg'
      injection hg' with hg'
      injection hg' with _ hg'
      exact hne hg'
theorem put_len (fs : List Adu) (k : Nat) : ((fs.take k).flatMap put).length ≤ (fs.flatMap put).length := by
  conv => rhs; rw [← List.take_append_drop k fs]
  rw [List.flatMap_append, List.length_append]; omega
/-- may be framed -/
def fine (f : Adu) : Bool := decide (0 < f.pdu.length) && decide (f.pdu.length ≤ 253)
theorem fine_no {f : Adu} (h : fine f = false) : f.pdu.length = 0 ∨ 253 < f.pdu.length := by
  unfold fine at h
  by_cases h0 : 0 < f.pdu.length
  · by_cases h1 : f.pdu.length ≤ 253
    · rw [decide_eq_true h0, decide_eq_true h1] at h; cases h
    · exact .inr (by omega)
  · exact .inl (by omega)
theorem fine_yes {f : Adu} (h : fine f = true) : 0 < f.pdu.length ∧ f.pdu.length ≤ 253 := by
  simp only [fine, Bool.and_eq_true, decide_eq_true_eq] at h
  exact h
theorem put_bad {f : Adu} (h : fine f = false) : put f = [] := by
  unfold put
  rw [if_pos (by simp [fine] at h; omega)]
theorem put_fine_len {f : Adu} (h : fine f = true) : (put f).length = f.pdu.length + 7 := by
  simp only [fine, Bool.and_eq_true, decide_eq_true_eq] at h
  unfold put
  rw [if_neg (by omega)]
  simp
theorem put_le (f : Adu) : (put f).length ≤ f.pdu.length + 7 := by
  rcases hf : fine f with _ | _
  · rw [put_bad hf]; simp
  · rw [put_fine_len hf]; omega
theorem puts_le (l : List Adu) : (l.flatMap put).length ≤ bytes l + 7 * l.length := by
  induction l with
  | nil => simp
  | cons f l ih => have := put_le f; simp [bytes] at ih ⊢; omega
theorem puts_fine (l : List Adu) : l.flatMap put = (l.filter fine).flatMap put := by
  induction l with
  | nil => rfl
  | cons f l ih =>
    rcases hf : fine f with _ | _
    · simp [hf, put_bad hf, ih]
    · simp [hf, ih]
theorem first_put {f : Adu} (r : List UInt8) (hf : fine f = true) (hid : f.id < 65536) : first (put f ++ r) = (some f, 7 + f.pdu.length, 0) := by
  have hl := put_fine_len hf
  simp only [fine, Bool.and_eq_true, decide_eq_true_eq] at hf
  obtain ⟨id, unit, pdu⟩ := f
  dsimp only at *
  have e : put ⟨id, unit, pdu⟩ ++ r = UInt8.ofNat (id / 256) :: UInt8.ofNat id :: 0 :: 0 :: UInt8.ofNat ((pdu.length + 1) / 256) :: UInt8.ofNat (pdu.length + 1) :: unit :: (pdu ++ r) := by
    unfold put; rw [if_neg (by dsimp only; omega)]; rfl
  rw [e]
  have a0 : (UInt8.ofNat (id / 256)).toNat = id / 256 := by simp; omega
  have a1 : (UInt8.ofNat id).toNat = id % 256 := by simp
  have a4 : (UInt8.ofNat ((pdu.length + 1) / 256)).toNat = (pdu.length + 1) / 256 := by simp; omega
  have a5 : (UInt8.ofNat (pdu.length + 1)).toNat = (pdu.length + 1) % 256 := by simp
  have hm : many (UInt8.ofNat (id / 256) :: UInt8.ofNat id :: 0 :: 0 :: UInt8.ofNat ((pdu.length + 1) / 256) :: UInt8.ofNat (pdu.length + 1) :: unit :: (pdu ++ r)) = pdu.length + 1 := by
    show (UInt8.ofNat ((pdu.length + 1) / 256)).toNat * 256 + (UInt8.ofNat (pdu.length + 1)).toNat = _
    rw [a4, a5]; omega
  have hb : barred (UInt8.ofNat (id / 256) :: UInt8.ofNat id :: 0 :: 0 :: UInt8.ofNat ((pdu.length + 1) / 256) :: UInt8.ofNat (pdu.length + 1) :: unit :: (pdu ++ r)) = false := by
    simp [barred, at_, List.getD_eq_getElem?_getD]
  unfold first
  rw [hb, hm, if_neg (by simp), if_neg (by simp), if_neg (by omega), if_neg (by simp; omega)]
  have h0 : at_ (UInt8.ofNat (id / 256) :: UInt8.ofNat id :: 0 :: 0 :: UInt8.ofNat ((pdu.length + 1) / 256) :: UInt8.ofNat (pdu.length + 1) :: unit :: (pdu ++ r)) 0 * 256 + at_ (UInt8.ofNat (id / 256) :: UInt8.ofNat id :: 0 :: 0 :: UInt8.ofNat ((pdu.length + 1) / 256) :: UInt8.ofNat (pdu.length + 1) :: unit :: (pdu ++ r)) 1 = id := by
    show (UInt8.ofNat (id / 256)).toNat * 256 + (UInt8.ofNat id).toNat = _
    rw [a0, a1]; omega
  rw [h0]
  have h7 : ((UInt8.ofNat (id / 256) :: UInt8.ofNat id :: 0 :: 0 :: UInt8.ofNat ((pdu.length + 1) / 256) :: UInt8.ofNat (pdu.length + 1) :: unit :: (pdu ++ r)).drop 7).take (pdu.length + 1 - 1) = pdu := by
    show (pdu ++ r).take (pdu.length + 1 - 1) = pdu
    simp
  rw [h7]
  have h8 : 6 + (pdu.length + 1) = 7 + pdu.length := by omega
  rw [h8]
  rfl
theorem cut_puts (fs : List Adu) (h : ∀ f ∈ fs, fine f = true ∧ f.id < 65536) : cut (fs.flatMap put) = (fs, (fs.flatMap put).length, 0) := by
  induction fs with
  | nil => rfl
  | cons f fs ih =>
    obtain ⟨h1, h2⟩ := h f (by simp)
    have hf := first_put (fs.flatMap put) h1 h2
    have hl := put_fine_len h1
    simp only [List.flatMap_cons]
    rw [cut_some hf]
    have hd : (put f ++ fs.flatMap put).drop (7 + f.pdu.length) = fs.flatMap put := by
      rw [show 7 + f.pdu.length = (put f).length by omega]; simp
    rw [hd, ih (fun g hg => h g (by simp [hg]))]
    simp only [List.length_append]
    rw [hl, Nat.add_comm 7]
end Go.Proofs.Ythcgomfejibkhaa
