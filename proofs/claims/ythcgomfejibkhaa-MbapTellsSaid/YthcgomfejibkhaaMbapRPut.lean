/-
  THE WALK of the document's Put.
-/
import Derived.Test.YthcgomfejibkhaaMbapPut
namespace Go.Proofs.Ythcgomfejibkhaa
open Go.RowKit Mbap

theorem RPut_empty (f : Adu) (v : Value) (w : World) (h : BytesAt w f.pdu v) (hf : f.pdu.length = 0) :
    Calls Try.prog 16 #[aduV f v] w fun e w' => BytesOwn w.heap.size (put f) e w' ∧ Below w.heap.size w w' := by
  obtain ⟨A, c, rfl, hc, -⟩ := h
  have HP := Lib.hid (show put f = [] by simp [put, hf])
  rw [hf]
  clear hf hc
  unfold aduV
  go_enter Try.func16, Try.ntmps16
  go_wp2_with fail
  go_returns
  exact ⟨⟨_, rfl, by rw [HP.out]; exact LawFrame.RowsAt.nil _ _ _, Kind.nil _ _ _⟩, by go_grown⟩
theorem RPut_long (f : Adu) (v : Value) (w : World) (h : BytesAt w f.pdu v) (hf : 253 < f.pdu.length) (hl2 : f.pdu.length ≤ 9223372036854775807) :
    Calls Try.prog 16 #[aduV f v] w fun e w' => BytesOwn w.heap.size (put f) e w' ∧ Below w.heap.size w w' := by
  obtain ⟨A, c, rfl, hc, -⟩ := h
  have HP := Lib.hid (show put f = [] by simp [put, hf])
  have h0 : ((f.pdu.length : Int) == 0) = false := by rw [beq_eq_false_iff_ne]; omega
  have h1 : (253 : Int) < (f.pdu.length : Int) := by omega
  unfold aduV
  go_enter Try.func16, Try.ntmps16
  go_wp2_with fail
  go_returns
  exact ⟨⟨_, rfl, by rw [HP.out]; exact LawFrame.RowsAt.nil _ _ _, Kind.nil _ _ _⟩, by go_grown⟩
/-- the bytes ahead, as the walk has them -/
def aheadR (f : Adu) : List Value := [.int .u8 ((f.id : Int) / 256), .int .u8 ((f.id : Int) % 256), .int .u8 0, .int .u8 0, .int .u8 (((f.pdu.length : Int) + 1) / 256), .int .u8 ((f.pdu.length : Int) + 1), .int .u8 (f.unit.toNat : Int)]
theorem aheadR_eq (f : Adu) : aheadR f = aheadV f := by unfold aheadR aheadV; rw [Int.add_comm]
theorem ahead_own (f : Adu) (w : World) {g : Nat} (hg : w.heap.size = g) : (w.alloc (.cells (aheadR f).toArray 5)).ownsRow g 5 1 (.slice (some ⟨g, 0, none⟩) 7 7) 7 (aheadR f) := by
  subst hg
  exact World.ownsRow_lit w (aheadR f).toArray 7 (Nat.le_refl _) (by simp [maxLen]) rfl
theorem RPut_fine (f : Adu) (v : Value) (w : World) (h : BytesAt w f.pdu v) (hf : 0 < f.pdu.length) (hf2 : f.pdu.length ≤ 253) (hid : f.id < 65536) :
    Calls Try.prog 16 #[aduV f v] w fun e w' => BytesOwn w.heap.size (put f) e w' ∧ Below w.heap.size w w' := by
  obtain ⟨A, c, rfl, hc, HR⟩ := h.reads
  have h0 : ((f.pdu.length : Int) == 0) = false := by rw [beq_eq_false_iff_ne]; omega
  have h1 : (f.pdu.length : Int) ≤ 253 := by omega
  have HS := Lib.hid HR
  clear HR
  have hu := f.unit.toNat_lt
  obtain ⟨i0, hi0, hz0, hz1, hz2⟩ := info_parts u8_info
  have HF := Lib.hid (put_row hf hf2 hid)
  have HO2 := Lib.hid (one_bytes f.pdu)
  clear h
  unfold aduV
  go_enter Try.func16, Try.ntmps16
  go_wp2_with (at_builtin; refine Words.wpList_append_any _ rfl (.tmp 32) (.tmp 34) _ rfl (w.heap.size + 1) 5 i0 _ 1 1 Try.underlying22 hi0 hz0 hz1 hz2 rfl (by omega) (.slice (some ⟨w.heap.size + 1, 0, none⟩) 7 7) 7 (aheadR f) rfl (ahead_own _ _ (World.size_alloc _ _)) w.heap.size A f.pdu.length c (f.pdu.map bV) rfl ((HS.out.alloc (Nat.le_refl _) _).alloc (by simp) _) HO2.out (by simp only [maxLen]; omega) (by omega) (by simp) ?_; intro v3 w3 ho3 hg3 hat3; rw [aheadR_eq, ← List.nil_append (aheadV f), HF.out] at ho3; have HB3 := Lib.hid (BytesAt.of_own ho3); have HK3 := Lib.hid (own_kind (B := w.heap.size) ho3 (by omega)); have hbw3 : Below w.heap.size w w3 := (((Below.refl _ _).alloc (Nat.le_refl _) _).alloc (by simp) _).grown hg3 (by simp; omega) (fun k hk => by simp [Value.ownBlock] at hk; omega); clear ho3 hg3 hat3)
  go_ret
  exact ⟨⟨_, rfl, HB3.out, HK3.out⟩, hbw3⟩
theorem RPut_own (f : Adu) (v : Value) (w : World) (h : BytesAt w f.pdu v) (hid : f.id < 65536) (hl : f.pdu.length ≤ 9223372036854775807) :
    Calls Try.prog 16 #[aduV f v] w fun e w' => BytesOwn w.heap.size (put f) e w' ∧ Below w.heap.size w w' := by
  by_cases h0 : f.pdu.length = 0
  · exact RPut_empty f v w h h0
  · by_cases h1 : 253 < f.pdu.length
    · exact RPut_long f v w h h1 hl
    · exact RPut_fine f v w h (by omega) (by omega) hid
end Go.Proofs.Ythcgomfejibkhaa
