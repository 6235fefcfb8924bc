/-
  PLAIN: frames in a stream, with numbers. No program is in sight.
-/
import Derived.WalkKit
namespace Go.Proofs.Ythcgomfejibkhaa.Mbap

/-- a frame: its number, its unit, its bytes -/
structure Adu where
  id : Nat
  unit : UInt8
  pdu : List UInt8
/-- byte i, 0 behind the end -/
def at_ (b : List UInt8) (i : Nat) : Nat := (b.getD i 0).toNat
theorem at_lt (b : List UInt8) (i : Nat) : at_ b i < 256 := (b.getD i 0).toNat_lt
/-- does a third or fourth byte bar a frame? -/
def barred (b : List UInt8) : Bool := (decide (2 < b.length) && (at_ b 2 != 0)) || (decide (3 < b.length) && (at_ b 3 != 0))
/-- how many bytes follow -/
def many (b : List UInt8) : Nat := at_ b 4 * 256 + at_ b 5
/-- the first frame, how many bytes that has, and what is wrong (31), or nothing (0) -/
def first (b : List UInt8) : Option Adu × Nat × Nat :=
  if barred b then (none, 0, 31)
  else if b.length < 6 then (none, 0, 0)
  else if many b < 2 ∨ 254 < many b then (none, 0, 31)
  else if b.length < 6 + many b then (none, 0, 0)
  else (some ⟨at_ b 0 * 256 + at_ b 1, b.getD 6 0, (b.drop 7).take (many b - 1)⟩, 6 + many b, 0)
/-- a frame's bytes -/
def put (f : Adu) : List UInt8 :=
  if f.pdu.length = 0 ∨ 253 < f.pdu.length then []
  else [UInt8.ofNat (f.id / 256), UInt8.ofNat f.id, 0, 0, UInt8.ofNat ((f.pdu.length + 1) / 256), UInt8.ofNat (f.pdu.length + 1), f.unit] ++ f.pdu
/-- the frames that bytes begin with, how many bytes these are, and what is wrong behind them -/
def cutN : Nat → List UInt8 → List Adu × Nat × Nat
  | 0, _ => ([], 0, 0)
  | k + 1, b => match first b with
    | (some f, n, _) => let r := cutN k (b.drop n); (f :: r.1, n + r.2.1, r.2.2)
    | (none, _, e) => ([], 0, e)
def cut (b : List UInt8) : List Adu × Nat × Nat := cutN (b.length + 1) b
/-- what a first frame is -/
theorem first_some {b : List UInt8} {f : Adu} {n e : Nat} (h : first b = (some f, n, e)) :
    e = 0 ∧ n = 7 + f.pdu.length ∧ n ≤ b.length ∧ 1 ≤ f.pdu.length ∧ f.pdu.length ≤ 253 ∧ f.id < 65536 ∧ 2 ≤ many b ∧ many b ≤ 254 ∧ n = 6 + many b ∧ barred b = false := by
  unfold first at h
  split at h
  · simp at h
  · rename_i hb
    split at h
    · simp at h
    · split at h
      · simp at h
      · split at h
        · simp at h
        · rename_i h1 h2 h3
          injection h with hf h
          injection h with hn he
          injection hf with hf
          subst hf hn he
          have h0 := at_lt b 0
          have h1' := at_lt b 1
          have hl : ((b.drop 7).take (many b - 1)).length = many b - 1 := by simp; omega
          refine ⟨rfl, ?_, ?_, ?_, ?_, ?_, ?_, ?_, rfl, by simpa using hb⟩
          · show 6 + many b = 7 + ((b.drop 7).take (many b - 1)).length
            omega
          · omega
          · show 1 ≤ ((b.drop 7).take (many b - 1)).length
            omega
          · show ((b.drop 7).take (many b - 1)).length ≤ 253
            omega
          · show at_ b 0 * 256 + at_ b 1 < 65536
            omega
          · omega
          · omega
theorem first_none {b : List UInt8} {n e : Nat} (h : first b = (none, n, e)) : n = 0 ∧ (e = 0 ∨ e = 31) := by
  unfold first at h
  split at h
  · injection h with _ h; injection h with h1 h2; exact ⟨h1.symm, .inr h2.symm⟩
  · split at h
    · injection h with _ h; injection h with h1 h2; exact ⟨h1.symm, .inl h2.symm⟩
    · split at h
      · injection h with _ h; injection h with h1 h2; exact ⟨h1.symm, .inr h2.symm⟩
      · split at h
        · injection h with _ h; injection h with h1 h2; exact ⟨h1.symm, .inl h2.symm⟩
        · simp at h
theorem cutN_more : ∀ (k : Nat) (b : List UInt8), b.length < k → cutN (k + 1) b = cutN k b
  | 0, _, h => absurd h (by omega)
  | k + 1, b, h => by
    show (match first b with | (some f, n, _) => _ | (none, _, e) => _) = (match first b with | (some f, n, _) => _ | (none, _, e) => _)
    rcases hf : first b with ⟨_ | f, n, e⟩
    · rfl
    · have := first_some hf
      simp only
      rw [cutN_more k (b.drop n) (by simp; omega)]
theorem cutN_any (k j : Nat) (b : List UInt8) (h : b.length < k) : cutN (k + j) b = cutN k b := by
  induction j with
  | zero => rfl
  | succ j ih => rw [← ih]; exact cutN_more (k + j) b (by omega)
theorem cut_some {b : List UInt8} {f : Adu} {n e : Nat} (h : first b = (some f, n, e)) : cut b = (f :: (cut (b.drop n)).1, n + (cut (b.drop n)).2.1, (cut (b.drop n)).2.2) := by
  have hs := first_some h
  have e1 : cutN b.length (b.drop n) = cutN ((b.drop n).length + 1) (b.drop n) := by
    have := cutN_any ((b.drop n).length + 1) (b.length - ((b.drop n).length + 1)) (b.drop n) (by omega)
    rw [← this]; congr 1; simp; omega
  show (match first b with | (some f, n, _) => _ | (none, _, e) => _) = _
  rw [h]
  simp only [e1, cut]
theorem cut_none {b : List UInt8} {n e : Nat} (h : first b = (none, n, e)) : cut b = ([], 0, e) := by
  show (match first b with | (some f, n, _) => _ | (none, _, e) => _) = _
  rw [h]
/-- what has been cut, frame by frame: the rest of the bytes -/
inductive Came : List UInt8 → List (Adu × Nat) → List UInt8 → Prop
  | none (b : List UInt8) : Came b [] b
  | more {b l : List UInt8} {xs : List (Adu × Nat)} {f : Adu} {n e : Nat} : Came b xs l → first l = (some f, n, e) → Came b (xs ++ [(f, n)]) (l.drop n)
theorem Came.len {b l : List UInt8} {xs : List (Adu × Nat)} (h : Came b xs l) : l.length + (xs.map (·.2)).sum = b.length ∧ l = b.drop (xs.map (·.2)).sum := by
  induction h with
  | none => simp
  | more h hf ih =>
    have := first_some hf
    obtain ⟨h1, h2⟩ := ih
    simp only [List.map_append, List.map_cons, List.map_nil, List.sum_append, List.sum_cons, List.sum_nil, List.length_drop]
    refine ⟨by omega, ?_⟩
    rw [h2, List.drop_drop]
    congr 1
theorem Came.cut {b l : List UInt8} {xs : List (Adu × Nat)} (h : Came b xs l) : Mbap.cut b = (xs.map (·.1) ++ (Mbap.cut l).1, (xs.map (·.2)).sum + (Mbap.cut l).2.1, (Mbap.cut l).2.2) := by
  induction h with
  | none => simp
  | more h hf ih =>
    rw [ih, cut_some hf]
    simp [Nat.add_assoc]
theorem Came.end_ {b l : List UInt8} {xs : List (Adu × Nat)} {n e : Nat} (h : Came b xs l) (hf : first l = (Option.none, n, e)) : Mbap.cut b = (xs.map (·.1), (xs.map (·.2)).sum, e) := by
  rw [h.cut, cut_none hf]; simp
end Go.Proofs.Ythcgomfejibkhaa.Mbap
