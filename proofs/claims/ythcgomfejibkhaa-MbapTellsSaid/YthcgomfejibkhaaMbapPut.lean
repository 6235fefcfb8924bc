/-
  THE WALK of mbap.Put.
-/
import Derived.Test.YthcgomfejibkhaaMbapFirst
import Derived.Test.YthcgomfejibkhaaOwn
namespace Go.Proofs.Ythcgomfejibkhaa
open Go.RowKit Mbap

/-- a byte's value -/
abbrev bV (x : UInt8) : Value := .int .u8 (x.toNat : Int)
theorem BytesAt.reads {w : World} {l : List UInt8} {v : Value} (h : BytesAt w l v) : ∃ A c, v = .slice A l.length c ∧ l.length ≤ c ∧ Words.Reads w w.heap.size 1 A l.length (l.map bV) := by
  rw [← LawFrame.flat_one]; exact LawFrame.RowsAt.reads (f := byteV) (fun _ => rfl) (by omega) h
theorem BytesAt.of_own {w : World} {base : Nat} {v : Value} {n : Nat} {l : List UInt8} (h : w.ownsRow base 5 1 v n (l.map bV)) : BytesAt w l v := by
  rw [← LawFrame.flat_one] at h; exact LawFrame.RowsAt.of_own (f := byteV) (fun _ => rfl) (by omega) h
theorem one_bytes (l : List UInt8) : ∀ u ∈ l.map bV, u.oneCell' = true := by
  intro u hu; obtain ⟨x, -, rfl⟩ := List.mem_map.1 hu; rfl
/-- what Put hands back -/
def BytesIs (l : List UInt8) (e : Ending) (w' : World) : Prop := ∃ v, e = .returned v ∧ BytesAt w' l v
/-- and where it lies -/
def BytesOwn (B : Nat) (l : List UInt8) (e : Ending) (w' : World) : Prop := ∃ v, e = .returned v ∧ BytesAt w' l v ∧ Kind B 5 w' v
theorem own_kind {w : World} {base size n B : Nat} {e : TypeId} {v : Value} {xs : List Value} (h : w.ownsRow base e size v n xs) (hB : B ≤ base) : Kind B e w v := by
  intro g hg
  rcases h.2 with ⟨rfl, _⟩ | ⟨g', cap, cur, rfl, hb, hh, _⟩
  · simp [Value.ownBlock] at hg
  · simp only [Value.ownBlock, Option.some.injEq] at hg
    subst hg
    exact ⟨Nat.le_trans hB hb, cur, hh⟩
theorem Put_empty (f : Adu) (v : Value) (w : World) (h : BytesAt w f.pdu v) (hf : f.pdu.length = 0) :
    Calls Try.prog 15 #[aduV f v] w fun e w' => BytesOwn w.heap.size (put f) e w' ∧ Below w.heap.size w w' := by
  obtain ⟨A, c, rfl, hc, -⟩ := h
  have HP := Lib.hid (show put f = [] by simp [put, hf])
  rw [hf]
  clear hf hc
  unfold aduV
  go_enter Try.func15, Try.ntmps15
  go_wp2_with fail
  go_returns
  exact ⟨⟨_, rfl, by rw [HP.out]; exact LawFrame.RowsAt.nil _ _ _, Kind.nil _ _ _⟩, by go_grown⟩
theorem Put_long (f : Adu) (v : Value) (w : World) (h : BytesAt w f.pdu v) (hf : 253 < f.pdu.length) (hl2 : f.pdu.length ≤ 9223372036854775807) :
    Calls Try.prog 15 #[aduV f v] w fun e w' => BytesOwn w.heap.size (put f) e w' ∧ Below w.heap.size w w' := by
  obtain ⟨A, c, rfl, hc, -⟩ := h
  have HP := Lib.hid (show put f = [] by simp [put, hf])
  have h0 : ((f.pdu.length : Int) == 0) = false := by rw [beq_eq_false_iff_ne]; omega
  have h1 : (253 : Int) < (f.pdu.length : Int) := by omega
  unfold aduV
  go_enter Try.func15, Try.ntmps15
  go_wp2_with fail
  go_returns
  exact ⟨⟨_, rfl, by rw [HP.out]; exact LawFrame.RowsAt.nil _ _ _, Kind.nil _ _ _⟩, by go_grown⟩
/-- the bytes ahead, as the walk has them -/
def aheadV (f : Adu) : List Value := [.int .u8 ((f.id : Int) / 256), .int .u8 ((f.id : Int) % 256), .int .u8 0, .int .u8 0, .int .u8 ((1 + (f.pdu.length : Int)) / 256), .int .u8 (1 + (f.pdu.length : Int)), .int .u8 (f.unit.toNat : Int)]
theorem put_row {f : Adu} (hf : 0 < f.pdu.length) (hf2 : f.pdu.length ≤ 253) (hid : f.id < 65536) : ([] ++ aheadV f) ++ f.pdu.map bV = (put f).map bV := by
  have e : put f = [UInt8.ofNat (f.id / 256), UInt8.ofNat f.id, 0, 0, UInt8.ofNat ((f.pdu.length + 1) / 256), UInt8.ofNat (f.pdu.length + 1), f.unit] ++ f.pdu := by
    unfold put; rw [if_neg (by omega)]
  rw [e]
  simp only [aheadV, bV, List.nil_append, List.map_append, List.map_cons, List.map_nil, UInt8.toNat_ofNat']
  congr 1
  have e1 : ((f.id : Int) / 256) = ((f.id / 256 % 2 ^ 8 : Nat) : Int) := by omega
  have e2 : ((f.id : Int) % 256) = ((f.id % 2 ^ 8 : Nat) : Int) := by omega
  have e3 : ((1 + (f.pdu.length : Int)) / 256) = (((f.pdu.length + 1) / 256 % 2 ^ 8 : Nat) : Int) := by omega
  have e4 : (1 + (f.pdu.length : Int)) = (((f.pdu.length + 1) % 2 ^ 8 : Nat) : Int) := by omega
  rw [e1, e2, e3, e4]
  rfl
theorem ahead_one (f : Adu) : ∀ u ∈ aheadV f, u.oneCell' = true := by
  intro u hu
  simp only [aheadV, List.mem_cons, List.not_mem_nil, or_false] at hu
  rcases hu with rfl | rfl | rfl | rfl | rfl | rfl | rfl <;> rfl
theorem Put_fine (f : Adu) (v : Value) (w : World) (h : BytesAt w f.pdu v) (hf : 0 < f.pdu.length) (hf2 : f.pdu.length ≤ 253) (hid : f.id < 65536) :
    Calls Try.prog 15 #[aduV f v] w fun e w' => BytesOwn w.heap.size (put f) e w' ∧ Below w.heap.size w w' := by
  obtain ⟨A, c, rfl, hc, HR⟩ := h.reads
  have h0 : ((f.pdu.length : Int) == 0) = false := by rw [beq_eq_false_iff_ne]; omega
  have h1 : (f.pdu.length : Int) ≤ 253 := by omega
  have HS := Lib.hid HR
  clear HR
  have hu := f.unit.toNat_lt
  obtain ⟨i0, hi0, hz0, hz1, hz2⟩ := info_parts u8_info
  have HF := Lib.hid (put_row hf hf2 hid)
  have HO := Lib.hid (ahead_one f)
  have HO2 := Lib.hid (one_bytes f.pdu)
  have hC : (6 + (1 + (f.pdu.length : Int))) = ((f.pdu.length + 7 : Nat) : Int) := by omega
  have HC := Lib.hid hC
  clear h hC
  unfold aduV
  go_enter Try.func15, Try.ntmps15
  go_wp2_with (first | (at_make; refine wpList_make_own _ rfl (.const (.int .i64 0)) (.tmp 20) 22 rfl (w.heap.size + 1) 5 i0 _ 1 Try.underlying22 hi0 hz0 hz1 .i64 .i64 _ (f.pdu.length + 7) rfl rfl HC.out (by rw [hz2]; omega) (by simp only [maxLen]; omega) (by simp) ?_; intro w1 ho1 hg1; rw [World.size_alloc] at ho1; have hb1 : Below (w.heap.size + 1) (w.alloc (.cells #[.int .u16 f.id, .int .u8 (f.unit.toNat : Int), .slice A f.pdu.length c] 26)) w1 := Below.grown (Below.refl _ _) hg1 (by simp) (fun k hk => by cases hk); have k0 : w1.cell? ⟨w.heap.size, 0, none⟩ = some (.int .u16 f.id) := (hb1.cell (p := ⟨w.heap.size, 0, none⟩) (Nat.lt_succ_self _)).trans (cell_of_row _ _ _ _ _ _ (heap_alloc_new w _)); have k1 : w1.cell? ⟨w.heap.size, 1, none⟩ = some (.int .u8 (f.unit.toNat : Int)) := (hb1.cell (p := ⟨w.heap.size, 1, none⟩) (Nat.lt_succ_self _)).trans (cell_of_row _ _ _ _ _ _ (heap_alloc_new w _)); have k2 : w1.cell? ⟨w.heap.size, 2, none⟩ = some (.slice A f.pdu.length c) := (hb1.cell (p := ⟨w.heap.size, 2, none⟩) (Nat.lt_succ_self _)).trans (cell_of_row _ _ _ _ _ _ (heap_alloc_new w _)); have HO1 := Lib.hid ho1; clear hg1 ho1) | (at_builtin; refine Words.wpList_append_any _ rfl (.tmp 22) (.tmp 37) _ rfl (w.heap.size + 1) 5 i0 _ 1 1 Try.underlying22 hi0 hz0 hz1 hz2 rfl (by omega) (.slice (some ⟨w.heap.size + 1, 0, none⟩) 0 (f.pdu.length + 7)) 0 [] rfl ((HO1.out : w1.ownsRow (w.heap.size + 1) 5 1 (.slice (some ⟨w.heap.size + 1, 0, none⟩) 0 (f.pdu.length + 7)) 0 []).alloc _) (w1.heap.size + 1) (some ⟨w1.heap.size, 0, none⟩) 7 7 (aheadV f) rfl (LawFrame.reads_block (heap_alloc_new w1 _) (Nat.lt_succ_self _) rfl) HO.out (by simp only [maxLen]; omega) (by omega) (by have := hb1.size; simp at this; simp; omega) ?_; intro v2 w2 ho2 hg2 hat2; have hb2 : Below (w.heap.size + 1) (w.alloc (.cells #[.int .u16 f.id, .int .u8 (f.unit.toNat : Int), .slice A f.pdu.length c] 26)) w2 := (hb1.alloc (by have := hb1.size; simpa using this) _).grown hg2 (by have := hb1.size; simp at this; simp; omega) (fun k hk => by simp [Value.ownBlock] at hk; omega); have k3 : w2.cell? ⟨w.heap.size, 2, none⟩ = some (.slice A f.pdu.length c) := (hb2.cell (p := ⟨w.heap.size, 2, none⟩) (Nat.lt_succ_self _)).trans (cell_of_row _ _ _ _ _ _ (heap_alloc_new w _)); have hbw2 : Below w.heap.size w w2 := ((Below.refl _ _).alloc (Nat.le_refl _) _).trans (hb2.mono (by omega)); have HO3 := Lib.hid ho2; clear ho2 hg2 hat2 hb1 k0 k1 HO1) | (at_builtin; refine Words.wpList_append_any _ rfl (.tmp 39) (.tmp 41) _ rfl (w.heap.size + 1) 5 i0 _ 1 1 Try.underlying22 hi0 hz0 hz1 hz2 rfl (by omega) v2 (0 + 7) ([] ++ aheadV f) rfl HO3.out w.heap.size A f.pdu.length c (f.pdu.map bV) rfl (HS.out.below hbw2) HO2.out (by simp only [maxLen]; omega) (by omega) (by have := hb2.size; simpa using this) ?_; intro v3 w3 ho3 hg3 hat3; rw [HF.out] at ho3; have HB3 := Lib.hid (BytesAt.of_own ho3); have HK3 := Lib.hid (own_kind (B := w.heap.size) ho3 (by omega)); have hbw3 := hbw2.grown hg3 hbw2.size (fun k hk => by have := (World.ownsRow.lt HO3.out k hk).1; omega); clear ho3 hg3 hat3 hbw2 hb2 HO3))
  go_ret
  exact ⟨⟨_, rfl, HB3.out, HK3.out⟩, hbw3⟩
theorem Put_own (f : Adu) (v : Value) (w : World) (h : BytesAt w f.pdu v) (hid : f.id < 65536) (hl : f.pdu.length ≤ 9223372036854775807) :
    Calls Try.prog 15 #[aduV f v] w fun e w' => BytesOwn w.heap.size (put f) e w' ∧ Below w.heap.size w w' := by
  by_cases h0 : f.pdu.length = 0
  · exact Put_empty f v w h h0
  · by_cases h1 : 253 < f.pdu.length
    · exact Put_long f v w h h1 hl
    · exact Put_fine f v w h (by omega) (by omega) hid
theorem Put_any (f : Adu) (v : Value) (w : World) (h : BytesAt w f.pdu v) (hid : f.id < 65536) (hl : f.pdu.length ≤ 9223372036854775807) :
    Calls Try.prog 15 #[aduV f v] w fun e w' => BytesIs (put f) e w' ∧ Below w.heap.size w w' :=
  (Put_own f v w h hid hl).mono fun _ _ ⟨⟨v, h1, h2, _⟩, h3⟩ => ⟨⟨v, h1, h2⟩, h3⟩
end Go.Proofs.Ythcgomfejibkhaa
